/- Two things that lie apart: one is changed, then the other one. No condition. -/
import Derived.Test.YthlmkjkjebcpfaaStar
namespace Go.Den
section
variable {w0 w w' w1 w2 : World} {A B : List Nat} {P Q P' Q' : HP}
theorem At.two (h : At w0 [] (stars [P, Q]) w) (f : Fr [] w w') : ∃ A B, At w' A P w' ∧ At w' B Q w' ∧ (∀ b ∈ A, b < hsz w) ∧ (∀ b ∈ B, b < hsz w) ∧ (∀ b ∈ A, b ∉ B) ∧ Fr [] w0 w' ∧ (∀ b ∈ A, b ∈ ([] : List Nat) ∨ hsz w0 ≤ b) ∧ (∀ b ∈ B, b ∈ ([] : List Nat) ∨ hsz w0 ≤ b) := by
  obtain ⟨F, ⟨A, C, p1, ⟨B, D, p2, _, rfl, p3⟩, rfl, p4⟩, p5, p6⟩ := h
  refine ⟨A, B, At.start (P.fr p1 f (by simp)), At.start (Q.fr p2 f (by simp)), P.lt p1, Q.lt p2, fun b h1 h2 => p4 b h1 (by simp [h2]), p6.trans' f, fun b hb => p5 b (by simp [hb]), fun b hb => p5 b (by simp [hb])⟩
/-- the second one has changed: the first one stands. -/
theorem At.first (hA : At w A P w) (hB : At w B Q' w1) (hd : ∀ b ∈ A, b ∉ B) : At w1 A P w1 := by
  obtain ⟨F, h1, h2, _⟩ := hA
  have hF : ∀ b ∈ F, b ∈ A := fun b hb => by
    rcases h2 b hb with h | h
    · exact h
    · have := P.lt h1 b hb; omega
  exact ⟨F, P.fr h1 hB.frame fun b hb => hd b (hF b hb), fun b hb => .inl (hF b hb), Fr.refl _ _⟩
theorem At.join2 (hB : At w B Q' w1) (hA : At w1 A P' w2) (hd : ∀ b ∈ A, b ∉ B) (hA1 : ∀ b ∈ A, b < hsz w) (f : Fr [] w0 w) (hA2 : ∀ b ∈ A, b ∈ ([] : List Nat) ∨ hsz w0 ≤ b) (hB2 : ∀ b ∈ B, b ∈ ([] : List Nat) ∨ hsz w0 ≤ b) : At w0 [] (stars [P', Q']) w2 := by
  obtain ⟨F1, p1, p2, p3⟩ := hB
  obtain ⟨F2, q1, q2, q3⟩ := hA
  have g1 := f.grow
  have g2 := p3.grow
  have dis : ∀ b ∈ F1, b ∉ A := fun b hb hb' => by
    rcases p2 b hb with h | h
    · exact hd b hb' h
    · have := hA1 b hb'; omega
  refine ⟨F2 ++ F1, ⟨F2, F1 ++ [], q1, ⟨F1, [], Q'.fr p1 q3 dis, ⟨trivial, rfl⟩, rfl, by simp⟩, by simp, fun b hb hb' => ?_⟩, fun b hb => ?_, (f.trans p3 hB2).trans q3 hA2⟩
  · simp only [List.append_nil] at hb'
    rcases q2 b hb with h | h
    · exact dis b hb' h
    · have := Q'.lt p1 b hb'; omega
  · rcases List.mem_append.1 hb with hb | hb
    · rcases q2 b hb with h | h
      · exact hA2 b h
      · right; omega
    · rcases p2 b hb with h | h
      · exact hB2 b h
      · right; omega
end
/-- the beginning of a slice of one's own. -/
theorem Slc.pre {α : Type} {enc : α → List Value} {sz n : Nat} {w : World} {v : Value} {xs : List α} {F : List Nat} (s : Slc enc sz w v xs F) (hn : n ≤ xs.length) :
    ∃ v', slicev sz v none (some (.int .i64 (n : Int))) = some v' ∧ Arr enc sz w v' (xs.take n) := by
  have ha := s.arr
  obtain ⟨a, cap, hv, hc⟩ : ∃ a cap, v = .slice a xs.length cap ∧ xs.length ≤ cap := by
    rcases s with ⟨rfl, rfl, _⟩ | ⟨b, cap, c, T, rfl, _, hc, _⟩
    · exact ⟨_, _, rfl, Nat.le_refl _⟩
    · exact ⟨_, _, rfl, hc⟩
  obtain ⟨a', cap', hv', h⟩ := ha
  rw [hv] at hv'
  cases hv'
  subst hv
  have e : (if cap = 0 then a else a.map (·.add (0 * sz))) = a := by
    by_cases h0 : cap = 0
    · rw [if_pos h0]
    · rw [if_neg h0]
      cases a with
      | none => rfl
      | some a => obtain ⟨b, o, p⟩ := a; cases p <;> simp [Addr.add]
  refine ⟨.slice a n cap, ?_, a, cap, by rw [List.length_take]; congr 1; omega, ?_⟩
  · unfold slicev
    simp only [natOf]
    simp [show n ≤ cap by omega]
    simpa using e
  · rcases h with h | ⟨b, o, c, T, fz, h1, h2, h3⟩
    · left; rw [h]; simp
    · right
      refine ⟨b, o, c, T, fz, h1, h2, fun i x hx => ?_⟩
      have hi : i < n := by
        have := (List.getElem?_eq_some_iff.1 hx).1
        rw [List.length_take] at this; omega
      rw [List.getElem?_take_of_lt hi] at hx
      exact h3 i x hx
/-- a slice's header. -/
structure SV where
  a : Option Addr
  n : Nat
  c : Nat
def SV.v (x : SV) : Value := .slice x.a x.n x.c
def encV (x : SV) : List Value := [x.v]
theorem encV_len (x : SV) : (encV x).length = 1 := rfl
theorem encV_one (x : SV) : ∀ u ∈ encV x, u.oneCell' = true := by intro u hu; simp [encV] at hu; subst hu; rfl
theorem slc_sv {α : Type} {enc : α → List Value} {sz : Nat} {w : World} {v : Value} {xs : List α} {F : List Nat} (s : Slc enc sz w v xs F) : ∃ x : SV, v = x.v := by
  rcases s with ⟨rfl, _⟩ | ⟨b, cap, c, T, rfl, _⟩
  · exact ⟨⟨none, 0, 0⟩, rfl⟩
  · exact ⟨⟨_, _, _⟩, rfl⟩
section
variable {α : Type} {enc : α → List Value} {sz : Nat} {w w' : World} {v u : Value} {xs ys : List α} {F G : List Nat} {k : Value → World → Prop}
/-- a new slice of what another one has. -/
theorem copy_step {E E' bytes : Nat} {zero : Array Value} {zero' : Value} (hu : ∀ w1, Fr [] w w1 → cellsOfArg w1 sz u = some (flat enc ys, ys.length)) (hl : ∀ x, (enc x).length = sz) (hl1 : ∀ x, ∀ u ∈ enc x, u.oneCell' = true) (hz : zero'.cells.size = sz) (hb : bytes ≤ 1000)
    (hmax : ys.length < 100000000000) (K : ∀ v' w' G, Slc enc sz w' v' ys G → (∀ b ∈ G, hsz w ≤ b) → Fr [] w w' → k v' w') : BND (newslice E zero sz 0 [] w) fun p_ => NEW p_ fun t w1 => APPEND E' sz bytes zero' t u w1 k := by
  refine newnil_step enc fun t w1 s1 f1 z1 => ?_
  refine APPEND_slc s1 (hu w1 f1) hl hl1 hz (by simp only [List.length_nil, Nat.zero_add]; exact Nat.le_trans (Nat.mul_le_mul_left _ hb) (by omega)) (by simp; omega) fun v' w' F' s' f' sub => ?_
  refine K v' w' F' (by simpa using s') (fun b hb => ?_) (f1.trans f' fun b hb => .inr (by simp at hb; omega))
  rcases sub b hb with h | h
  · simp at h; omega
  · omega
/-- one more behind a slice. -/
theorem push_step {E E' bytes : Nat} {zero : Array Value} {zero' y : Value} {x : α} (s : Slc enc sz w v xs G) (hl : ∀ x, (enc x).length = sz) (hl1 : ∀ x, ∀ u ∈ enc x, u.oneCell' = true) (hy : y.cells = (enc x).toArray) (hz : zero'.cells.size = sz) (hb : bytes ≤ 1000)
    (hmax : xs.length < 10000000000) (K : ∀ v' w' G', Slc enc sz w' v' (xs ++ [x]) G' → (∀ b ∈ G', b ∈ G ∨ hsz w ≤ b) → Fr G w w' → k v' w') : BND (newslice E zero sz 1 [(0, sz, y)] w) fun p_ => NEW p_ fun t w1 => APPEND E' sz bytes zero' v t w1 k := by
  refine newone_step hl hy fun t w1 s1 f1 z1 => ?_
  refine APPEND_slc (s.fr f1 (by simp)) (s1.loads hl) hl hl1 hz (Nat.le_trans (Nat.mul_le_mul_left _ hb) (by simp; omega)) (by simp; omega) fun v' w' F' s' f' sub => ?_
  refine K v' w' F' s' (fun b hb => ?_) (f1.nil.trans' f')
  rcases sub b hb with h | h
  · exact .inl h
  · exact .inr (by omega)
end
end Go.Den
