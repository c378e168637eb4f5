
/- Events of which bytes are turned, or that end too early, in plain words. No condition. -/
import Derived.Test.YtmefbneoljpbgaaGreatDoorOpP
import Derived.Test.YtmefbneoljpbgaaGreatDoorCrcTurn
set_option linter.unusedSimpArgs false
set_option linter.unusedVariables false
namespace Go.Ev
open Go.Den Go.Rec Go.Crc Go.Frame Go.Proofs.YtmefbneoljpbgaaGreatDoor
theorem frRead_short {x : Fra} (hx : x.2.length ≤ 400) {k : Nat} (hk : k < (frB x).length) : (frRead ((frB x).take k)).2.2 = 3 := by
  rw [frB_len] at hk
  obtain ⟨h3, hh3⟩ : ∃ h, h = [x.1, UInt8.ofNat (x.2.length % 256), UInt8.ofNat (x.2.length / 256 % 256)] := ⟨_, rfl⟩
  have hB : frB x = putS h3 ++ putS x.2 := by rw [hh3]; rfl
  have hp : (putS h3).length = 7 := by rw [putS_len, hh3]; rfl
  have es : sizeOf_ h3 = x.2.length := by
    rw [hh3]
    unfold sizeOf_
    simp only [List.getD_cons_succ, List.getD_cons_zero]
    rw [UInt8.toNat_ofNat', UInt8.toNat_ofNat']
    omega
  have t1 : (frB x).take 7 = putS h3 := by rw [hB, List.take_append_of_le_length (by omega), List.take_of_length_le (by omega)]
  have hl := frB_len x
  unfold frRead
  by_cases h7 : ((frB x).take k).length < 7
  · rw [if_pos h7]
  · rw [if_neg h7, List.take_take, show min 7 k = 7 by rw [List.length_take] at h7; omega, t1, cut_put]
    simp only
    rw [es, if_neg (by omega), if_pos (by rw [List.length_take]; omega)]
theorem frRead_turned {x : Fra} {c r : List UInt8} {a : Int} (hx : x.2.length ≤ 400) (hb : Burst (frB x) c a) (hne : c ≠ frB x) : frRead (c ++ r) = ((0, []), 0, 8) := by
  have hlen := hb.1
  rw [frB_len] at hlen
  obtain ⟨h3, hh3⟩ : ∃ h, h = [x.1, UInt8.ofNat (x.2.length % 256), UInt8.ofNat (x.2.length / 256 % 256)] := ⟨_, rfl⟩
  have hB : frB x = putS h3 ++ putS x.2 := by rw [hh3]; rfl
  have hp : (putS h3).length = 7 := by rw [putS_len, hh3]; rfl
  have es : sizeOf_ h3 = x.2.length := by
    rw [hh3]
    unfold sizeOf_
    simp only [List.getD_cons_succ, List.getD_cons_zero]
    rw [UInt8.toNat_ofNat', UInt8.toNat_ofNat']
    omega
  have t1 : (frB x).take 7 = putS h3 := by rw [hB, List.take_append_of_le_length (by omega), List.take_of_length_le (by omega)]
  have t2 : (frB x).drop 7 = putS x.2 := by rw [hB, List.drop_append_of_le_length (by omega), List.drop_of_length_le (by omega), List.nil_append]
  have hb1 := hb.take 7
  have hb2 := hb.drop 7
  rw [t1] at hb1
  rw [t2] at hb2
  have v1 : (cutS (putS h3)).isSome = true := by rw [cut_put]; rfl
  have v2 : (cutS (putS x.2)).isSome = true := by rw [cut_put]; rfl
  have c1 : (c ++ r).take 7 = c.take 7 := List.take_append_of_le_length (by omega)
  unfold frRead
  rw [if_neg (by rw [List.length_append]; omega), c1]
  cases h1 : cutS (c.take 7) with
  | none => rfl
  | some g =>
    have e1 : putS h3 = c.take 7 := no_burst v1 (by rw [h1]; rfl) hb1
    have e2 : cutS (c.take 7) = some h3 := by rw [← e1, cut_put]
    rw [e2] at h1
    cases h1
    simp only
    rw [es, if_neg (by omega), if_neg (by rw [List.length_append]; omega), List.take_append_of_le_length (by omega), List.take_of_length_le (show c.length ≤ 11 + x.2.length by omega)]
    cases h2 : cutS (c.drop 7) with
    | none => rfl
    | some g2 =>
      exfalso
      have e3 : putS x.2 = c.drop 7 := no_burst v2 (by rw [h2]; rfl) hb2
      exact hne (by rw [hB, e1, e3, List.take_append_drop])
/-- acts of whose bytes up to 32 bits, one behind the other, are turned. -/
theorem load_turned : ∀ (l : List Ax) (c : List UInt8) (a : Int), GoodA l → Burst (allB l) c a → c ≠ allB l → ∃ (p : List Ax) (r : List UInt8), GoodA p ∧ c = allB p ++ r ∧ r ≠ [] ∧ frRead r = ((0, []), 0, 8)
  | [], c, a, _, hb, hne => by
    have : c.length = 0 := by rw [← hb.1]; rfl
    exact absurd (List.length_eq_zero_iff.1 this) hne
  | x :: l, c, a, h, hb, hne => by
    obtain ⟨h1, h2⟩ := h x (by simp)
    have hl : ∀ b ∈ l, rightA b = true ∧ OkA b := fun b hb => h b (by simp [hb])
    have hx := (fraA h1 h2).1
    have e : allB (x :: l) = bytesA x ++ allB l := by simp [allB]
    have hbl := (bytesA_len h1 h2).1
    have hb1 := hb.take (bytesA x).length
    have hb2 := hb.drop (bytesA x).length
    rw [e, List.take_left] at hb1
    rw [e, List.drop_left] at hb2
    by_cases hc : c.take (bytesA x).length = bytesA x
    · have hne2 : c.drop (bytesA x).length ≠ allB l := fun hh => hne (by rw [e, ← hh]; conv => { lhs; rw [← List.take_append_drop (bytesA x).length c, hc] })
      obtain ⟨p, r, g1, g2, g3, g4⟩ := load_turned l _ _ hl hb2 hne2
      refine ⟨x :: p, r, fun b hb' => ?_, ?_, g3, g4⟩
      · rcases List.mem_cons.1 hb' with rfl | hb'
        · exact ⟨h1, h2⟩
        · exact g1 b hb'
      · have : allB (x :: p) = bytesA x ++ allB p := by simp [allB]
        rw [this, List.append_assoc, ← g2]
        conv => { lhs; rw [← List.take_append_drop (bytesA x).length c, hc] }
    · refine ⟨[], c, fun b hb' => by simp at hb', by simp [allB], ?_, ?_⟩
      · intro e0
        have := hb.1
        rw [e0, e, List.length_append, List.length_nil] at this
        omega
      · rw [← List.take_append_drop (bytesA x).length c]
        exact frRead_turned hx hb1 hc
theorem loadB_turned {l : List Ax} {c : List UInt8} {a : Int} (h : GoodA l) (hb : Burst (allB l) c a) (hne : c ≠ allB l) : loadB c = ([], [], 8) := by
  obtain ⟨p, r, g1, rfl, g3, g4⟩ := load_turned l c a h hb hne
  rw [load_tail g1 (.inr (by rw [g4]; simp)), g4]
  simp [g3]
/-- acts whose bytes end too early: a beginning of them is loaded. -/
theorem load_cut : ∀ (l : List Ax) (k : Nat), GoodA l → ∃ (j : Nat) (r : List UInt8), j ≤ l.length ∧ (allB l).take k = allB (l.take j) ++ r ∧ (r = [] ∨ (frRead r).2.2 = 3) ∧ (∀ i, (allB (l.take i)).length ≤ k → i ≤ l.length → i ≤ j)
  | [], k, _ => ⟨0, [], by simp, by simp [allB], .inl rfl, fun i _ hi => by simpa using hi⟩
  | x :: l, k, h => by
    obtain ⟨h1, h2⟩ := h x (by simp)
    have hl : GoodA l := fun b hb => h b (by simp [hb])
    have hx := (fraA h1 h2).1
    have hbl := (bytesA_len h1 h2).1
    have e : allB (x :: l) = bytesA x ++ allB l := by simp [allB]
    by_cases hk : (bytesA x).length ≤ k
    · obtain ⟨j, r, g1, g2, g3, g4⟩ := load_cut l (k - (bytesA x).length) hl
      refine ⟨j + 1, r, by simp [g1], ?_, g3, fun i hi hil => ?_⟩
      · have : allB ((x :: l).take (j + 1)) = bytesA x ++ allB (l.take j) := by simp [allB]
        rw [this, List.append_assoc, ← g2, e, List.take_append, List.take_of_length_le hk]
      · cases i with
        | zero => omega
        | succ i =>
          have : allB ((x :: l).take (i + 1)) = bytesA x ++ allB (l.take i) := by simp [allB]
          rw [this, List.length_append] at hi
          have := g4 i (by omega) (by simpa using hil)
          omega
    · refine ⟨0, (bytesA x).take k, by simp, ?_, ?_, fun i hi hil => ?_⟩
      · rw [e, List.take_append_of_le_length (by omega)]; simp [allB]
      · exact .inr (frRead_short hx (by show k < (bytesA x).length; omega))
      · cases i with
        | zero => omega
        | succ i =>
          have : allB ((x :: l).take (i + 1)) = bytesA x ++ allB (l.take i) := by simp [allB]
          rw [this, List.length_append] at hi
          omega
theorem loadB_cut {l : List Ax} (h : GoodA l) (k : Nat) : ∃ j, j ≤ l.length ∧ loadB ((allB l).take k) = (l.take j, endsF 0 (l.take j), 0) ∧ (∀ i, (allB (l.take i)).length ≤ k → i ≤ l.length → i ≤ j) ∧ (allB (l.take j)).length ≤ k ∧ (allB (l.take j)) = ((allB l).take k).take (allB (l.take j)).length := by
  obtain ⟨j, r, g1, g2, g3, g4⟩ := load_cut l k h
  have hg : GoodA (l.take j) := fun b hb => h b (List.mem_of_mem_take hb)
  refine ⟨j, g1, ?_, g4, ?_, ?_⟩
  · rw [g2, load_tail hg (g3.imp id fun h => by rw [h]; simp), if_pos g3]
  · have := congrArg List.length g2
    rw [List.length_take, List.length_append] at this
    omega
  · rw [g2, List.take_left]
end Go.Ev
