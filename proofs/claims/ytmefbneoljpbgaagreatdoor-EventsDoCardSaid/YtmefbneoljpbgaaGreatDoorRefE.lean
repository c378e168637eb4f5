
/- The document's acts of a queue, walked: which may be, their records, and back. No condition but that numbers are of 64 bits. -/
import Derived.Test.YtmefbneoljpbgaaGreatDoorOpOf
import Derived.Test.YtmefbneoljpbgaaGreatDoorRefD
import Derived.Test.YtmefbneoljpbgaaGreatDoorMb
namespace Go.Proofs.YtmefbneoljpbgaaGreatDoor
open Go.Den Go.Disk Go.Vint Go.Crc Go.Frame Go.Rec Go.Ev
theorem right_iff2 {o : Ax} (hd : 1 ≤ o.d ∧ o.d ≤ 10) : rightA o = true ↔ (¬ (o.d = 4 ∨ o.d = 5 ∨ o.d = 6 ∨ o.d = 8 ∨ o.d = 9) → o.id = 0) ∧ (¬ (o.d = 2 ∨ o.d = 3 ∨ o.d = 5 ∨ o.d = 6 ∨ o.d = 7 ∨ o.d = 10) → o.n = 0) ∧ (o.d ≠ 10 → o.name = noB) ∧ o.name.size ≤ 64 ∧
    (o.d ≠ 2 → o.seg = 0 ∧ o.at_ = 0 ∧ o.size = 0) ∧ (o.d = 2 → 0 ≤ o.size ∧ o.size ≤ 64) ∧ (o.d = 2 → 0 ≤ o.lane ∧ o.lane ≤ 7) ∧ (o.d = 3 → -1 ≤ o.lane ∧ o.lane ≤ 7) ∧ (o.d ≠ 2 → o.d ≠ 3 → o.lane = 0) := by
  rw [rightA_iff]
  have key : RightA o ↔ o = keptA o ∧ o.name.size ≤ 64 ∧ mayA o = true := ⟨fun ⟨_, a, b, c⟩ => ⟨a, b, c⟩, fun ⟨a, b, c⟩ => ⟨hd, a, b, c⟩⟩
  rw [key]
  obtain ⟨d, lane, id, n, name, seg, at_, size⟩ := o
  simp only at hd ⊢
  rcases ten hd with rfl | rfl | rfl | rfl | rfl | rfl | rfl | rfl | rfl | rfl
  all_goals
    simp [keptA, mayA, id2D, idD, Ax.mk.injEq]
    constructor
    · intro h
      refine ⟨?_, ?_⟩ <;> first | omega | (simp_all [noB_size]; done) | (simp_all [noB_size]; omega)
    · intro h
      refine ⟨?_, ?_⟩ <;> first | omega | (simp_all [noB_size]; done) | (simp_all [noB_size]; omega)
theorem neW (o : Ax) : eqaggv [(0, (.int .u64)), (1, (.int .u64)), (2, (.int .i64))] .neq (.agg [Value.int .u64 (o.seg : Int), .int .u64 (o.at_ : Int), .int .i64 o.size].toArray) (.agg [Value.int .u64 0, .int .u64 0, .int .i64 0].toArray) = some (.bool (!decide ((o.seg : Int) = 0 ∧ (o.at_ : Int) = 0 ∧ o.size = 0))) := by
  refine eqagg_ne ?_
  rw [eqCells_int (xs := [_, _, _]) (ys := [_, _, _]) rfl rfl, eqCells_int (xs := [_, _, _]) (ys := [_, _, _]) rfl rfl, eqCells_int (xs := [_, _, _]) (ys := [_, _, _]) rfl rfl, eqCells_nil]
  by_cases h1 : o.seg = 0 <;> by_cases h2 : o.at_ = 0 <;> by_cases h3 : o.size = 0 <;> simp [h1, h2, h3]
def sm2 (n : Nat) : Int := ((min n 1000 : Nat) : Int)
theorem sm2_v (n : Nat) : min2v (.int .u64 (n : Int)) (.int .u64 1000) = some (.int .u64 (sm2 n)) := by
  show some (Value.int .u64 (if (1000 : Int) < (n : Int) then 1000 else (n : Int))) = _
  unfold sm2
  congr 2
  split <;> omega
theorem sm2_c (n : Nat) : convi .i64 (.int .u64 (sm2 n)) = some (.int .i64 (sm2 n)) := by
  unfold sm2
  exact convi64 (by omega)
theorem sm2_less (n : Nat) : binv .int .sub (.int .i64 (sm2 n)) (.int .i64 1) = some (.int .i64 (sm2 n - 1)) := by
  unfold sm2
  rw [binv_sub, wrap_i64 (by omega) (by omega)]
/-- the document's act, ahead of what is asked of it. -/
def preB (k : Int) (ns : List Nat) (t : ByteArray) : Ax :=
  if k = 2 then ⟨2, sm2 (ns.getD 0 0), 0, ns.getD 1 0, t, ns.getD 2 0, ns.getD 3 0, sm2 (ns.getD 4 0)⟩ else
  if k = 3 then ⟨3, sm2 (ns.getD 0 0) - 1, 0, ns.getD 1 0, t, 0, 0, 0⟩ else
  if id2D k = true then ⟨k, 0, ns.getD 0 0, ns.getD 1 0, t, 0, 0, 0⟩ else
  if idD k = true then ⟨k, 0, ns.getD 0 0, 0, t, 0, 0, 0⟩ else
  if k = 7 ∨ k = 10 then ⟨k, 0, 0, ns.getD 0 0, t, 0, 0, 0⟩ else ⟨k, 0, 0, 0, t, 0, 0, 0⟩
theorem preB_of {k : Int} (hk : 0 ≤ k) (ns : List Nat) (t : ByteArray) : (if rightA (preB k ns t) = true then (preB k ns t, (0 : Int)) else (zeroA, 2)) = ofA ⟨k.toNat, ns, t.data.toList⟩ := by
  have ek : ((k.toNat : Nat) : Int) = k := by omega
  unfold ofA
  by_cases h2 : k = 2
  · have e1 : preB k ns t = ⟨2, sm2 (ns.getD 0 0), 0, ns.getD 1 0, t, ns.getD 2 0, ns.getD 3 0, sm2 (ns.getD 4 0)⟩ := by unfold preB; rw [if_pos h2]
    have e2 : preA ⟨k.toNat, ns, t.data.toList⟩ = ⟨2, sml (ns.getD 0 0), 0, ns.getD 1 0, t, ns.getD 2 0, ns.getD 3 0, sml (ns.getD 4 0)⟩ := by unfold preA; simp [h2, txB_data]
    rw [e1, e2]
    by_cases hs : ns.getD 0 0 < 1000 ∧ ns.getD 4 0 < 1000
    · have a : sm2 (ns.getD 0 0) = sml (ns.getD 0 0) := by unfold sm2 sml; omega
      have b : sm2 (ns.getD 4 0) = sml (ns.getD 4 0) := by unfold sm2 sml; omega
      rw [a, b]
    · have n1 : rightA ⟨2, sm2 (ns.getD 0 0), 0, ns.getD 1 0, t, ns.getD 2 0, ns.getD 3 0, sm2 (ns.getD 4 0)⟩ = false := by
        rw [← Bool.not_eq_true]
        intro h
        have := (right_iff2 (by simp)).1 h
        have q1 := this.2.2.2.2.2.2.1 rfl
        have q2 := this.2.2.2.2.2.1 rfl
        dsimp only [sm2] at q1 q2
        omega
      have n2 : rightA ⟨2, sml (ns.getD 0 0), 0, ns.getD 1 0, t, ns.getD 2 0, ns.getD 3 0, sml (ns.getD 4 0)⟩ = false := by
        rw [← Bool.not_eq_true]
        intro h
        have := (right_iff2 (by simp)).1 h
        have q1 := this.2.2.2.2.2.2.1 rfl
        have q2 := this.2.2.2.2.2.1 rfl
        dsimp only [sml] at q1 q2
        omega
      rw [n1, n2]; rfl
  · by_cases h3 : k = 3
    · have e1 : preB k ns t = ⟨3, sm2 (ns.getD 0 0) - 1, 0, ns.getD 1 0, t, 0, 0, 0⟩ := by unfold preB; rw [if_neg h2, if_pos h3]
      have e2 : preA ⟨k.toNat, ns, t.data.toList⟩ = ⟨3, sml (ns.getD 0 0) - 1, 0, ns.getD 1 0, t, 0, 0, 0⟩ := by unfold preA; simp [h3, txB_data]
      rw [e1, e2]
      by_cases hs : ns.getD 0 0 < 1000
      · have a : sm2 (ns.getD 0 0) = sml (ns.getD 0 0) := by unfold sm2 sml; omega
        rw [a]
      · have n1 : rightA ⟨3, sm2 (ns.getD 0 0) - 1, 0, ns.getD 1 0, t, 0, 0, 0⟩ = false := by
          rw [← Bool.not_eq_true]
          intro h
          have := (right_iff2 (by simp)).1 h
          have q1 := this.2.2.2.2.2.2.2.1 rfl
          dsimp only [sm2] at q1
          omega
        have n2 : rightA ⟨3, sml (ns.getD 0 0) - 1, 0, ns.getD 1 0, t, 0, 0, 0⟩ = false := by
          rw [← Bool.not_eq_true]
          intro h
          have := (right_iff2 (by simp)).1 h
          have q1 := this.2.2.2.2.2.2.2.1 rfl
          dsimp only [sml] at q1
          omega
        rw [n1, n2]; rfl
    · have e : preA ⟨k.toNat, ns, t.data.toList⟩ = preB k ns t := by
        unfold preA preB
        simp only [txB_data, ek]
        rw [if_neg (by omega), if_neg (by omega), if_neg h2, if_neg h3]
        congr 2
        by_cases hh : k = 7 ∨ k = 10
        · rw [if_pos hh, if_pos (by omega)]
        · rw [if_neg hh, if_neg (by omega)]
      rw [e]
set_option linter.unusedSimpArgs false
set_option linter.unusedVariables false
set_option maxRecDepth 20000
set_option maxHeartbeats 4000000
attribute [local congr] BND_cg COND_cg GEF_cg
attribute [local irreducible] capl slicea load1 loadn iaddr iaddra faddr storev newslice binv lookv mupd mdel mlenv mentry mestore slicev slicev3 slices indexs indexav textv rangev nexts clearv shiftv eqaggv convi buildv pickv lens lenl unv nilchk extractv partn JOIN
section
variable {w : World} {R : Value → World → Prop}
theorem r12_Right (o : Ax) (hR : ∀ w', Fr [] w w' → R (.bool (rightA o)) w') : CALL PR F_tumbrelref12_Right [.agg (encAx o).toArray] w R := by
  refine C_tumbrelref12_Right ?_
  unfold M_tumbrelref12_Right
  refine NEW_intro fun w1 b1 f1 z1 => ?_
  replace b1 : blk w1 (hsz w) = some (.cells (encAx o).toArray 95 (0, 0)) := b1
  have yes : rightA o = true → R (.bool true) w1 := fun h => by have := hR w1 f1; rwa [h] at this
  have no : (rightA o = true → False) → R (.bool false) w1 := fun h => by have := hR w1 f1; rwa [Bool.eq_false_iff.2 h] at this
  have el : loadn 3 w1 (.pointer (some ⟨hsz w, 0 + 5, none⟩)) = some (.agg [Value.int .u64 (o.seg : Int), .int .u64 (o.at_ : Int), .int .i64 o.size].toArray) := loadn_blk (o := 0 + 5) (n := 3) b1 (by simp [encAx])
  by_cases h1 : o.d < 1
  · (repeat refine gg ?_)
    exact no fun h => by have := (rightA_iff.1 h).d; omega
  by_cases h2 : 10 < o.d
  · (repeat refine gg ?_)
    exact no fun h => by have := (rightA_iff.1 h).d; omega
  have hd : 1 ≤ o.d ∧ o.d ≤ 10 := by omega
  rcases ten hd with h9 | h9 | h9 | h9 | h9 | h9 | h9 | h9 | h9 | h9
  · (repeat refine gg ?_)
    by_cases c1 : ¬ (o.id : Int) = 0
    · (repeat refine gg ?_)
      exact no fun h => by have := (right_iff2 hd).1 h; omega
    replace c1 := Decidable.not_not.1 c1
    (repeat refine gg ?_)
    by_cases c2 : ¬ (o.n : Int) = 0
    · (repeat refine gg ?_)
      exact no fun h => by have := (right_iff2 hd).1 h; omega
    replace c2 := Decidable.not_not.1 c2
    (repeat refine gg ?_)
    by_cases c3 : ¬ o.name = ⟨#[]⟩
    · (repeat refine gg ?_)
      exact no fun h => c3 (((right_iff2 hd).1 h).2.2.1 (by omega))
    replace c3 := Decidable.not_not.1 c3
    (repeat refine gg ?_)
    by_cases c4 : (64 : Int) < (o.name.size : Int)
    · (repeat refine gg ?_)
      exact no fun h => by have := (right_iff2 hd).1 h; omega
    (repeat refine gg ?_)
    by_cases c5 : ¬ ((o.seg : Int) = 0 ∧ (o.at_ : Int) = 0 ∧ o.size = 0)
    · have ew := neW o
      rw [decide_eq_false c5] at ew
      (repeat (first | refine gg ?_ | (apply BND_build ([.int .u64 0, .int .u64 0, .int .i64 0]); exact rfl)))
      exact no fun h => c5 (by have := (right_iff2 hd).1 h; omega)
    replace c5 := Decidable.not_not.1 c5
    have ew := neW o
    rw [decide_eq_true c5] at ew
    obtain ⟨c51, c52, c53⟩ := c5
    (repeat (first | refine gg ?_ | (apply BND_build ([.int .u64 0, .int .u64 0, .int .i64 0]); exact rfl)))
    by_cases c8 : o.lane = 0
    · rw [decide_eq_true c8]
      exact yes ((right_iff2 hd).2 ⟨by omega, by omega, fun _ => c3, by omega, by omega, by omega, by omega, by omega, by omega⟩)
    · rw [decide_eq_false c8]
      exact no fun h => by have := (right_iff2 hd).1 h; omega
  · (repeat refine gg ?_)
    by_cases c1 : ¬ (o.id : Int) = 0
    · (repeat refine gg ?_)
      exact no fun h => by have := (right_iff2 hd).1 h; omega
    replace c1 := Decidable.not_not.1 c1
    (repeat refine gg ?_)
    by_cases c3 : ¬ o.name = ⟨#[]⟩
    · (repeat refine gg ?_)
      exact no fun h => c3 (((right_iff2 hd).1 h).2.2.1 (by omega))
    replace c3 := Decidable.not_not.1 c3
    (repeat refine gg ?_)
    by_cases c4 : (64 : Int) < (o.name.size : Int)
    · (repeat refine gg ?_)
      exact no fun h => by have := (right_iff2 hd).1 h; omega
    (repeat refine gg ?_)
    by_cases c5 : o.size < 0
    · (repeat refine gg ?_)
      exact no fun h => by have := (right_iff2 hd).1 h; omega
    (repeat refine gg ?_)
    by_cases c6 : (64 : Int) < o.size
    · (repeat refine gg ?_)
      exact no fun h => by have := (right_iff2 hd).1 h; omega
    (repeat refine gg ?_)
    by_cases c7 : ¬ (0 : Int) ≤ o.lane
    · (repeat refine gg ?_)
      exact no fun h => by have := (right_iff2 hd).1 h; omega
    replace c7 := Decidable.not_not.1 c7
    (repeat refine gg ?_)
    by_cases c8 : o.lane ≤ 7
    · rw [decide_eq_true c8]
      exact yes ((right_iff2 hd).2 ⟨by omega, by omega, fun _ => c3, by omega, by omega, by omega, by omega, by omega, by omega⟩)
    · rw [decide_eq_false c8]
      exact no fun h => by have := (right_iff2 hd).1 h; omega
  · (repeat refine gg ?_)
    by_cases c1 : ¬ (o.id : Int) = 0
    · (repeat refine gg ?_)
      exact no fun h => by have := (right_iff2 hd).1 h; omega
    replace c1 := Decidable.not_not.1 c1
    (repeat refine gg ?_)
    by_cases c3 : ¬ o.name = ⟨#[]⟩
    · (repeat refine gg ?_)
      exact no fun h => c3 (((right_iff2 hd).1 h).2.2.1 (by omega))
    replace c3 := Decidable.not_not.1 c3
    (repeat refine gg ?_)
    by_cases c4 : (64 : Int) < (o.name.size : Int)
    · (repeat refine gg ?_)
      exact no fun h => by have := (right_iff2 hd).1 h; omega
    (repeat refine gg ?_)
    by_cases c5 : ¬ ((o.seg : Int) = 0 ∧ (o.at_ : Int) = 0 ∧ o.size = 0)
    · have ew := neW o
      rw [decide_eq_false c5] at ew
      (repeat (first | refine gg ?_ | (apply BND_build ([.int .u64 0, .int .u64 0, .int .i64 0]); exact rfl)))
      exact no fun h => c5 (by have := (right_iff2 hd).1 h; omega)
    replace c5 := Decidable.not_not.1 c5
    have ew := neW o
    rw [decide_eq_true c5] at ew
    obtain ⟨c51, c52, c53⟩ := c5
    (repeat (first | refine gg ?_ | (apply BND_build ([.int .u64 0, .int .u64 0, .int .i64 0]); exact rfl)))
    by_cases c7 : ¬ (-1 : Int) ≤ o.lane
    · (repeat refine gg ?_)
      exact no fun h => by have := (right_iff2 hd).1 h; omega
    replace c7 := Decidable.not_not.1 c7
    (repeat refine gg ?_)
    by_cases c8 : o.lane ≤ 7
    · rw [decide_eq_true c8]
      exact yes ((right_iff2 hd).2 ⟨by omega, by omega, fun _ => c3, by omega, by omega, by omega, by omega, by omega, by omega⟩)
    · rw [decide_eq_false c8]
      exact no fun h => by have := (right_iff2 hd).1 h; omega
  · (repeat refine gg ?_)
    by_cases c2 : ¬ (o.n : Int) = 0
    · (repeat refine gg ?_)
      exact no fun h => by have := (right_iff2 hd).1 h; omega
    replace c2 := Decidable.not_not.1 c2
    (repeat refine gg ?_)
    by_cases c3 : ¬ o.name = ⟨#[]⟩
    · (repeat refine gg ?_)
      exact no fun h => c3 (((right_iff2 hd).1 h).2.2.1 (by omega))
    replace c3 := Decidable.not_not.1 c3
    (repeat refine gg ?_)
    by_cases c4 : (64 : Int) < (o.name.size : Int)
    · (repeat refine gg ?_)
      exact no fun h => by have := (right_iff2 hd).1 h; omega
    (repeat refine gg ?_)
    by_cases c5 : ¬ ((o.seg : Int) = 0 ∧ (o.at_ : Int) = 0 ∧ o.size = 0)
    · have ew := neW o
      rw [decide_eq_false c5] at ew
      (repeat (first | refine gg ?_ | (apply BND_build ([.int .u64 0, .int .u64 0, .int .i64 0]); exact rfl)))
      exact no fun h => c5 (by have := (right_iff2 hd).1 h; omega)
    replace c5 := Decidable.not_not.1 c5
    have ew := neW o
    rw [decide_eq_true c5] at ew
    obtain ⟨c51, c52, c53⟩ := c5
    (repeat (first | refine gg ?_ | (apply BND_build ([.int .u64 0, .int .u64 0, .int .i64 0]); exact rfl)))
    by_cases c8 : o.lane = 0
    · rw [decide_eq_true c8]
      exact yes ((right_iff2 hd).2 ⟨by omega, by omega, fun _ => c3, by omega, by omega, by omega, by omega, by omega, by omega⟩)
    · rw [decide_eq_false c8]
      exact no fun h => by have := (right_iff2 hd).1 h; omega
  · (repeat refine gg ?_)
    by_cases c3 : ¬ o.name = ⟨#[]⟩
    · (repeat refine gg ?_)
      exact no fun h => c3 (((right_iff2 hd).1 h).2.2.1 (by omega))
    replace c3 := Decidable.not_not.1 c3
    (repeat refine gg ?_)
    by_cases c4 : (64 : Int) < (o.name.size : Int)
    · (repeat refine gg ?_)
      exact no fun h => by have := (right_iff2 hd).1 h; omega
    (repeat refine gg ?_)
    by_cases c5 : ¬ ((o.seg : Int) = 0 ∧ (o.at_ : Int) = 0 ∧ o.size = 0)
    · have ew := neW o
      rw [decide_eq_false c5] at ew
      (repeat (first | refine gg ?_ | (apply BND_build ([.int .u64 0, .int .u64 0, .int .i64 0]); exact rfl)))
      exact no fun h => c5 (by have := (right_iff2 hd).1 h; omega)
    replace c5 := Decidable.not_not.1 c5
    have ew := neW o
    rw [decide_eq_true c5] at ew
    obtain ⟨c51, c52, c53⟩ := c5
    (repeat (first | refine gg ?_ | (apply BND_build ([.int .u64 0, .int .u64 0, .int .i64 0]); exact rfl)))
    by_cases c8 : o.lane = 0
    · rw [decide_eq_true c8]
      exact yes ((right_iff2 hd).2 ⟨by omega, by omega, fun _ => c3, by omega, by omega, by omega, by omega, by omega, by omega⟩)
    · rw [decide_eq_false c8]
      exact no fun h => by have := (right_iff2 hd).1 h; omega
  · (repeat refine gg ?_)
    by_cases c3 : ¬ o.name = ⟨#[]⟩
    · (repeat refine gg ?_)
      exact no fun h => c3 (((right_iff2 hd).1 h).2.2.1 (by omega))
    replace c3 := Decidable.not_not.1 c3
    (repeat refine gg ?_)
    by_cases c4 : (64 : Int) < (o.name.size : Int)
    · (repeat refine gg ?_)
      exact no fun h => by have := (right_iff2 hd).1 h; omega
    (repeat refine gg ?_)
    by_cases c5 : ¬ ((o.seg : Int) = 0 ∧ (o.at_ : Int) = 0 ∧ o.size = 0)
    · have ew := neW o
      rw [decide_eq_false c5] at ew
      (repeat (first | refine gg ?_ | (apply BND_build ([.int .u64 0, .int .u64 0, .int .i64 0]); exact rfl)))
      exact no fun h => c5 (by have := (right_iff2 hd).1 h; omega)
    replace c5 := Decidable.not_not.1 c5
    have ew := neW o
    rw [decide_eq_true c5] at ew
    obtain ⟨c51, c52, c53⟩ := c5
    (repeat (first | refine gg ?_ | (apply BND_build ([.int .u64 0, .int .u64 0, .int .i64 0]); exact rfl)))
    by_cases c8 : o.lane = 0
    · rw [decide_eq_true c8]
      exact yes ((right_iff2 hd).2 ⟨by omega, by omega, fun _ => c3, by omega, by omega, by omega, by omega, by omega, by omega⟩)
    · rw [decide_eq_false c8]
      exact no fun h => by have := (right_iff2 hd).1 h; omega
  · (repeat refine gg ?_)
    by_cases c1 : ¬ (o.id : Int) = 0
    · (repeat refine gg ?_)
      exact no fun h => by have := (right_iff2 hd).1 h; omega
    replace c1 := Decidable.not_not.1 c1
    (repeat refine gg ?_)
    by_cases c3 : ¬ o.name = ⟨#[]⟩
    · (repeat refine gg ?_)
      exact no fun h => c3 (((right_iff2 hd).1 h).2.2.1 (by omega))
    replace c3 := Decidable.not_not.1 c3
    (repeat refine gg ?_)
    by_cases c4 : (64 : Int) < (o.name.size : Int)
    · (repeat refine gg ?_)
      exact no fun h => by have := (right_iff2 hd).1 h; omega
    (repeat refine gg ?_)
    by_cases c5 : ¬ ((o.seg : Int) = 0 ∧ (o.at_ : Int) = 0 ∧ o.size = 0)
    · have ew := neW o
      rw [decide_eq_false c5] at ew
      (repeat (first | refine gg ?_ | (apply BND_build ([.int .u64 0, .int .u64 0, .int .i64 0]); exact rfl)))
      exact no fun h => c5 (by have := (right_iff2 hd).1 h; omega)
    replace c5 := Decidable.not_not.1 c5
    have ew := neW o
    rw [decide_eq_true c5] at ew
    obtain ⟨c51, c52, c53⟩ := c5
    (repeat (first | refine gg ?_ | (apply BND_build ([.int .u64 0, .int .u64 0, .int .i64 0]); exact rfl)))
    by_cases c8 : o.lane = 0
    · rw [decide_eq_true c8]
      exact yes ((right_iff2 hd).2 ⟨by omega, by omega, fun _ => c3, by omega, by omega, by omega, by omega, by omega, by omega⟩)
    · rw [decide_eq_false c8]
      exact no fun h => by have := (right_iff2 hd).1 h; omega
  · (repeat refine gg ?_)
    by_cases c2 : ¬ (o.n : Int) = 0
    · (repeat refine gg ?_)
      exact no fun h => by have := (right_iff2 hd).1 h; omega
    replace c2 := Decidable.not_not.1 c2
    (repeat refine gg ?_)
    by_cases c3 : ¬ o.name = ⟨#[]⟩
    · (repeat refine gg ?_)
      exact no fun h => c3 (((right_iff2 hd).1 h).2.2.1 (by omega))
    replace c3 := Decidable.not_not.1 c3
    (repeat refine gg ?_)
    by_cases c4 : (64 : Int) < (o.name.size : Int)
    · (repeat refine gg ?_)
      exact no fun h => by have := (right_iff2 hd).1 h; omega
    (repeat refine gg ?_)
    by_cases c5 : ¬ ((o.seg : Int) = 0 ∧ (o.at_ : Int) = 0 ∧ o.size = 0)
    · have ew := neW o
      rw [decide_eq_false c5] at ew
      (repeat (first | refine gg ?_ | (apply BND_build ([.int .u64 0, .int .u64 0, .int .i64 0]); exact rfl)))
      exact no fun h => c5 (by have := (right_iff2 hd).1 h; omega)
    replace c5 := Decidable.not_not.1 c5
    have ew := neW o
    rw [decide_eq_true c5] at ew
    obtain ⟨c51, c52, c53⟩ := c5
    (repeat (first | refine gg ?_ | (apply BND_build ([.int .u64 0, .int .u64 0, .int .i64 0]); exact rfl)))
    by_cases c8 : o.lane = 0
    · rw [decide_eq_true c8]
      exact yes ((right_iff2 hd).2 ⟨by omega, by omega, fun _ => c3, by omega, by omega, by omega, by omega, by omega, by omega⟩)
    · rw [decide_eq_false c8]
      exact no fun h => by have := (right_iff2 hd).1 h; omega
  · (repeat refine gg ?_)
    by_cases c2 : ¬ (o.n : Int) = 0
    · (repeat refine gg ?_)
      exact no fun h => by have := (right_iff2 hd).1 h; omega
    replace c2 := Decidable.not_not.1 c2
    (repeat refine gg ?_)
    by_cases c3 : ¬ o.name = ⟨#[]⟩
    · (repeat refine gg ?_)
      exact no fun h => c3 (((right_iff2 hd).1 h).2.2.1 (by omega))
    replace c3 := Decidable.not_not.1 c3
    (repeat refine gg ?_)
    by_cases c4 : (64 : Int) < (o.name.size : Int)
    · (repeat refine gg ?_)
      exact no fun h => by have := (right_iff2 hd).1 h; omega
    (repeat refine gg ?_)
    by_cases c5 : ¬ ((o.seg : Int) = 0 ∧ (o.at_ : Int) = 0 ∧ o.size = 0)
    · have ew := neW o
      rw [decide_eq_false c5] at ew
      (repeat (first | refine gg ?_ | (apply BND_build ([.int .u64 0, .int .u64 0, .int .i64 0]); exact rfl)))
      exact no fun h => c5 (by have := (right_iff2 hd).1 h; omega)
    replace c5 := Decidable.not_not.1 c5
    have ew := neW o
    rw [decide_eq_true c5] at ew
    obtain ⟨c51, c52, c53⟩ := c5
    (repeat (first | refine gg ?_ | (apply BND_build ([.int .u64 0, .int .u64 0, .int .i64 0]); exact rfl)))
    by_cases c8 : o.lane = 0
    · rw [decide_eq_true c8]
      exact yes ((right_iff2 hd).2 ⟨by omega, by omega, fun _ => c3, by omega, by omega, by omega, by omega, by omega, by omega⟩)
    · rw [decide_eq_false c8]
      exact no fun h => by have := (right_iff2 hd).1 h; omega
  · (repeat refine gg ?_)
    by_cases c1 : ¬ (o.id : Int) = 0
    · (repeat refine gg ?_)
      exact no fun h => by have := (right_iff2 hd).1 h; omega
    replace c1 := Decidable.not_not.1 c1
    (repeat refine gg ?_)
    by_cases c4 : (64 : Int) < (o.name.size : Int)
    · (repeat refine gg ?_)
      exact no fun h => by have := (right_iff2 hd).1 h; omega
    (repeat refine gg ?_)
    by_cases c5 : ¬ ((o.seg : Int) = 0 ∧ (o.at_ : Int) = 0 ∧ o.size = 0)
    · have ew := neW o
      rw [decide_eq_false c5] at ew
      (repeat (first | refine gg ?_ | (apply BND_build ([.int .u64 0, .int .u64 0, .int .i64 0]); exact rfl)))
      exact no fun h => c5 (by have := (right_iff2 hd).1 h; omega)
    replace c5 := Decidable.not_not.1 c5
    have ew := neW o
    rw [decide_eq_true c5] at ew
    obtain ⟨c51, c52, c53⟩ := c5
    (repeat (first | refine gg ?_ | (apply BND_build ([.int .u64 0, .int .u64 0, .int .i64 0]); exact rfl)))
    by_cases c8 : o.lane = 0
    · rw [decide_eq_true c8]
      exact yes ((right_iff2 hd).2 ⟨by omega, by omega, fun h => absurd h9 h, by omega, by omega, by omega, by omega, by omega, by omega⟩)
    · rw [decide_eq_false c8]
      exact no fun h => by have := (right_iff2 hd).1 h; omega
theorem r12_Record (o : Ax) (hR0 : rightA o = false → ∀ w', Fr [] w w' → R (.tuple #[.agg (encRc (0, nilV, noB)).toArray, .int .i64 1]) w')
    (hR : rightA o = true → ∀ w' (s : SV) H, Slc encU 1 w' s.v (numsA o) H → (∀ b ∈ H, hsz w ≤ b) → Fr [] w w' → R (.tuple #[.agg (encRc (o.d, s, o.name)).toArray, .int .i64 0]) w') : CALL PR F_tumbrelref12_Record [.agg (encAx o).toArray] w R := by
  refine C_tumbrelref12_Record ?_
  unfold M_tumbrelref12_Record
  refine NEW_intro fun w1 b1 f1 z1 => ?_
  replace b1 : blk w1 (hsz w) = some (.cells (encAx o).toArray 95 (0, 0)) := b1
  refine NEW_intro fun w2 b2 f2 z2 => ?_
  replace b2 : blk w2 (hsz w1) = some (.cells (encRc (0, nilV, noB)).toArray 90 (0, 0)) := b2
  have b12 := f2.some (by simp) b1
  (repeat (first | refine BND_step (loadn_all' b12 rfl) ?_ | refine gg ?_))
  refine r12_Right o fun w3 f3 => ?_
  have b13 := f3.some (by simp) b12
  have b23 := f3.some (by simp) b2
  have f03 := (f1.trans' f2).trans' f3
  cases hr : rightA o with
  | false =>
    (repeat (first | refine gg ?_ | (apply BND_build (encRc (0, nilV, noB)); exact rfl)))
    refine ret_step (R := fun r w8 => R (.tuple #[r, .int .i64 1]) w8) b23 rfl rfl (encRc_one _) (by simp [encRc]) fun w4 f4 z4 => ?_
    exact hR0 hr w4 (f03.trans f4 fun b hb => .inr (by simp at hb; omega))
  | true =>
    obtain ⟨hd, hk, hs, hm⟩ := rightA_iff.1 hr
    (repeat (first | refine gg ?_ | (apply BND_build (encRc (o.d, nilV, o.name)); exact rfl)))
    refine box_step (n := 3) (zs := encRc (0, nilV, noB)) (vs := encRc (o.d, nilV, o.name)) rfl rfl (encRc_one _) (by simp [encRc]) fun w6 b6 f6 z6 => ?_
    have b16 := f6.some (by simp) b13
    have b26 := f6.some (by simp) b23
    have f06 := f03.trans' f6
    have gr := f06.grow
    (repeat refine gg ?_)
    obtain ⟨Q, hQ⟩ : ∃ Q : World → Prop, Q = fun w' => ∃ (s : SV) (H : List Nat), blk w' (hsz w3) = some (.cells (encRc (o.d, s, o.name)).toArray 90 (0, 0)) ∧ Slc encU 1 w' s.v (numsA o) H ∧ (∀ b ∈ H, hsz w6 ≤ b) ∧ Fr [hsz w3] w6 w' := ⟨_, rfl⟩
    have put : ∀ (K : World → Prop), (∀ w', Q w' → K w') → ∀ (ps : List (Nat × Nat × Value)) (n : Nat), numsA o ≠ [] → ps = partsAt 1 (fun x : Nat => Value.int .u64 (x : Int)) 0 (numsA o) → n = (numsA o).length →
        BND (newslice 32 #[(Value.int .u64 0)] 1 n ps w6) fun p_ => NEW p_ fun t w9 => BND (faddr 1 (.pointer (some ⟨hsz w3, 0, none⟩))) fun a => BND (storev 1 w9 a t) fun w10 => K w10 := by
      intro K hK ps n hne hps hn
      refine newparts_step encU_len (val := fun x : Nat => Value.int .u64 (x : Int)) (fun _ => rfl) (numsA o) hn hps fun t w9 s9 f9 z9 => ?_
      obtain ⟨x9, rfl⟩ := slc_sv s9
      have b69 := f9.some (by simp) b6
      (repeat refine gg ?_)
      refine fstore_step (j := 1) (u := x9.v) b69 (sv_one x9) (by simp [encRc]) fun w10 b10 f10 z10 => ?_
      refine hK _ (by rw [hQ]; exact ⟨x9, [hsz w6], b10, s9.fr f10 (by simp; omega), by simp, f9.nil.trans f10 fun b hb => .inl hb⟩)
    refine join_w Q (fun K hK => ?_) (fun w7 hq => ?_)
    · by_cases h2 : o.d = 2
      · obtain ⟨m1, m2, m3, m4⟩ := may2 hm h2
        have e : numsA o = [o.lane.toNat, o.n, o.seg, o.at_, o.size.toNat] := by unfold numsA; rw [if_pos h2]
        (repeat (first | refine BND_step (conv_iu (n := o.lane) (by omega)) ?_ | refine BND_step (conv_iu (n := o.size) (by omega)) ?_ | refine gg ?_))
        exact put K hK _ _ (by rw [e]; simp) (by rw [e]; rfl) (by rw [e]; rfl)
      · (repeat refine gg ?_)
        refine join_w Q (fun K1 hK1 => ?_) (fun w' hq => hK _ hq)
        by_cases h3 : o.d = 3
        · obtain ⟨m1, m2⟩ := may3 hm h3
          have e : numsA o = [(o.lane + 1).toNat, o.n] := by unfold numsA; rw [if_neg h2, if_pos h3]
          (repeat (first | refine BND_step (lane_up (n := o.lane) (by omega)) ?_ | refine BND_step (conv_iu (n := o.lane + 1) (by omega)) ?_ | refine gg ?_))
          exact put K1 hK1 _ _ (by rw [e]; simp) (by rw [e]; rfl) (by rw [e]; rfl)
        · (repeat refine gg ?_)
          refine join_v (fun v w' => v = .bool (id2D o.d) ∧ w6 = w') (fun K2 hK2 => ?_) ?_
          · unfold id2D at hK2
            by_cases h5 : o.d = 5
            · (repeat refine gg ?_)
              exact hK2 _ _ ⟨by simp [h5], rfl⟩
            · (repeat refine gg ?_)
              exact hK2 _ _ ⟨by simp [h5], rfl⟩
          rintro _ _ ⟨rfl, rfl⟩
          refine join_w Q (fun K2 hK2 => ?_) (fun w' hq => hK1 _ hq)
          cases h56 : id2D o.d with
          | true =>
            have e : numsA o = [o.id, o.n] := by unfold numsA; rw [if_neg h2, if_neg h3, if_pos h56]
            (repeat refine gg ?_)
            exact put K2 hK2 _ _ (by rw [e]; simp) (by rw [e]; rfl) (by rw [e]; rfl)
          | false =>
            (repeat refine gg ?_)
            refine join_v (fun v w' => v = .bool (idD o.d) ∧ w6 = w') (fun K3 hK3 => ?_) ?_
            · unfold idD at hK3
              by_cases h4 : o.d = 4
              · (repeat refine gg ?_)
                exact hK3 _ _ ⟨by simp [h4], rfl⟩
              · (repeat refine gg ?_)
                refine join_v (fun v w' => v = .bool (decide (o.d = 8) || decide (o.d = 9)) ∧ w6 = w') (fun K4 hK4 => ?_) ?_
                · by_cases h8 : o.d = 8
                  · (repeat refine gg ?_)
                    exact hK4 _ _ ⟨by simp [h8], rfl⟩
                  · (repeat refine gg ?_)
                    exact hK4 _ _ ⟨by simp [h8], rfl⟩
                · rintro _ _ ⟨rfl, rfl⟩
                  exact hK3 _ _ ⟨by simp [h4], rfl⟩
            rintro _ _ ⟨rfl, rfl⟩
            refine join_w Q (fun K3 hK3 => ?_) (fun w' hq => hK2 _ hq)
            cases h489 : idD o.d with
            | true =>
              have e : numsA o = [o.id] := by unfold numsA; rw [if_neg h2, if_neg h3, h56, h489]; simp
              (repeat refine gg ?_)
              exact put K3 hK3 _ _ (by rw [e]; simp) (by rw [e]; rfl) (by rw [e]; rfl)
            | false =>
              (repeat refine gg ?_)
              refine join_v (fun v w' => v = .bool (decide (o.d = 7) || decide (o.d = 10)) ∧ w6 = w') (fun K4 hK4 => ?_) ?_
              · by_cases h7 : o.d = 7
                · (repeat refine gg ?_)
                  exact hK4 _ _ ⟨by simp [h7], rfl⟩
                · (repeat refine gg ?_)
                  exact hK4 _ _ ⟨by simp [h7], rfl⟩
              rintro _ _ ⟨rfl, rfl⟩
              refine join_w Q (fun K4 hK4 => ?_) (fun w' hq => hK3 _ hq)
              cases h710 : (decide (o.d = 7) || decide (o.d = 10)) with
              | true =>
                have e : numsA o = [o.n] := by unfold numsA; rw [if_neg h2, if_neg h3, h56, h489]; simp at h710; simp [h710]
                (repeat refine gg ?_)
                exact put K4 hK4 _ _ (by rw [e]; simp) (by rw [e]; rfl) (by rw [e]; rfl)
              | false =>
                have e : numsA o = [] := by unfold numsA; rw [if_neg h2, if_neg h3, h56, h489]; simp at h710; simp [h710]
                (repeat refine gg ?_)
                refine hK4 _ (by rw [hQ, e]; exact ⟨nilV, [], b6, Slc.nil _ _ _, by simp, Fr.refl _ _⟩)
    · rw [hQ] at hq
      obtain ⟨x7, H, b7, s7, g7, f7⟩ := hq
      have gr3 := f3.grow
      have gr6 := f6.grow
      have gr03 := f03.grow
      have b27 := f7.some (by simp; omega) b26
      (repeat (first | refine BND_step (loadn_all' b7 rfl) ?_ | refine gg ?_))
      refine ret_step (R := fun r w8 => R (.tuple #[r, .int .i64 0]) w8) b27 rfl rfl (encRc_one _) (by simp [encRc]) fun w8 f8 z8 => ?_
      refine hR hr w8 x7 H (s7.fr f8 (fun b hb hb' => ?_)) (fun b hb => ?_) ((f06.trans f7 fun b hb => .inr (by simp at hb; omega)).trans f8 fun b hb => .inr (by simp at hb; omega))
      · have := g7 b hb; simp at hb'; omega
      · have := g7 b hb; omega
theorem r12_Of {nv : SV} {ns : List Nat} (k : Int) (t : ByteArray) (hn : Arr encU 1 w nv.v ns) (hR : ∀ w', Fr [] w w' → R (.tuple #[.agg (encAx (ofR k ns t).1).toArray, .int .i64 (ofR k ns t).2]) w') : CALL PR F_tumbrelref12_Of [.agg (encRc (k, nv, t)).toArray] w R := by
  refine C_tumbrelref12_Of ?_
  unfold M_tumbrelref12_Of
  refine NEW_intro fun w1 b1 f1 z1 => ?_
  replace b1 : blk w1 (hsz w) = some (.cells (encRc (k, nv, t)).toArray 90 (0, 0)) := b1
  refine NEW_intro fun w2 b2 f2 z2 => ?_
  replace b2 : blk w2 (hsz w1) = some (.cells (encAx zeroA).toArray 95 (0, 0)) := b2
  have b12 := f2.some (by simp) b1
  (repeat (first | refine BND_step (loadn_all' b12 rfl) ?_ | refine gg ?_))
  refine r5_Right k t (hn.fr (f1.trans' f2) (by simp)) fun w3 f3 => ?_
  have b13 := f3.some (by simp) b12
  have b23 := f3.some (by simp) b2
  have f03 := (f1.trans' f2).trans' f3
  have g3 := f3.grow
  unfold ofR at hR
  cases hr : rightB k ns.length t.size with
  | false =>
    rw [hr] at hR
    (repeat (first | refine gg ?_ | (apply BND_build (encAx zeroA); exact rfl)))
    refine ret_step (R := fun r w8 => R (.tuple #[r, .int .i64 2]) w8) b23 rfl rfl (encAx_one _) (by simp [encAx]) fun w4 f4 z4 => ?_
    exact hR w4 (f03.trans f4 fun b hb => .inr (by simp at hb; omega))
  | true =>
    rw [hr] at hR
    simp only [if_true] at hR
    obtain ⟨k1, k17, hlen, hfit⟩ := right_known hr
    rw [← preB_of (by omega)] at hR
    (repeat (first | refine gg ?_ | (apply BND_build (encAx { zeroA with d := k, name := t }); exact rfl)))
    refine box_step (n := 8) (zs := encAx zeroA) (vs := encAx { zeroA with d := k, name := t }) rfl rfl (encAx_one _) (by simp [encAx]) fun w8 b8 f8 z8 => ?_
    have b18 := f8.some (by simp) b13
    have b28 := f8.some (by simp) b23
    have f08 := f03.trans' f8
    have g03 := f03.grow
    have g08 := f08.grow
    obtain ⟨P, hP⟩ : ∃ P, P = preB k ns t := ⟨_, rfl⟩
    rw [← hP] at hR
    obtain ⟨Q, hQ⟩ : ∃ Q : World → Prop, Q = fun w' => blk w' (hsz w3) = some (.cells (encAx P).toArray 95 (0, 0)) ∧ Fr [hsz w3] w8 w' := ⟨_, rfl⟩
    -- the i-th number, in a world that keeps what came in
    have rd : ∀ (i n : Nat), ns[i]? = some n → ∃ b o, iaddr 1 nv.v (.int .i64 (i : Int)) = some (.pointer (some ⟨b, o, none⟩)) ∧ ∀ w', Fr [hsz w3] w8 w' → load1 w' (.pointer (some ⟨b, o, none⟩)) = some (.int .u64 (n : Int)) := fun i n hx => by
      obtain ⟨b, o, ia, _, hb, ld⟩ := hn.spot hx rfl .i64
      exact ⟨b, o, ia, fun w' f => ld (w' := w') ((f.keep b (by omega) (by simp; omega)).trans (f08.keep b hb (by simp))) (j := 0) rfl⟩
    (repeat refine gg ?_)
    refine join_w Q (fun K hK => ?_) (fun w9 hq => ?_)
    · have fin : ∀ w9 X, blk w9 (hsz w3) = some (.cells (encAx X).toArray 95 (0, 0)) → X = P → Fr [hsz w3] w8 w9 → K w9 := fun w9 X hb he hf => hK _ (by rw [hQ]; exact ⟨by rw [← he]; exact hb, hf⟩)
      by_cases h2 : k = 2
      · obtain ⟨a, b, c, d, e, rfl⟩ := five (l := ns) (by rw [hlen, h2]; rfl)
        obtain ⟨q0, p0, i0, l0⟩ := rd 0 a rfl
        obtain ⟨q1, p1, i1, l1⟩ := rd 1 b rfl
        obtain ⟨q2, p2, i2, l2⟩ := rd 2 c rfl
        obtain ⟨q3, p3, i3, l3⟩ := rd 3 d rfl
        obtain ⟨q4, p4, i4, l4⟩ := rd 4 e rfl
        have l00 := l0 w8 (Fr.refl _ _)
        have mv := sm2_v a
        have mc := sm2_c a
        (repeat refine gg ?_)
        refine fstore_step (j := 1) (u := .int .i64 (sm2 a)) b8 ⟨rfl, rfl⟩ (by simp [encAx]) fun w11 c11 f11 z11 => ?_
        have b111 := f11.some (by simp; omega) b18
        have l11 := l1 w11 f11
        (repeat refine gg ?_)
        refine fstore_step (j := 3) (u := .int .u64 (b : Int)) c11 ⟨rfl, rfl⟩ (by simp [encAx]) fun w12 c12 f12 z12 => ?_
        have b112 : blk w12.drew (hsz w) = _ := f12.some (by simp; omega) b111
        have f812 := (f11.trans' f12).trans' (Fr.drew _ _)
        have l22 := l2 _ f812
        have l33 := l3 _ f812
        have l44 := l4 _ f812
        replace c12 : blk w12.drew (hsz w3) = _ := c12
        have mv4 := sm2_v e
        have mc4 := sm2_c e
        (repeat (first | refine gg ?_ | (apply BND_build ([.int .u64 (c : Int), .int .u64 (d : Int), .int .i64 (sm2 e)]); exact rfl)))
        refine fstoren_step (us := [.int .u64 (c : Int), .int .u64 (d : Int), .int .i64 (sm2 e)]) c12 rfl (by simp [encAx]) (by intro u hu; simp at hu; rcases hu with rfl | rfl | rfl <;> rfl) (by simp) fun w15 c15 f15 z15 => ?_
        refine fin w15 ⟨k, sm2 a, 0, b, t, c, d, sm2 e⟩ c15 ?_ (f812.trans' f15)
        rw [hP]; unfold preB; simp [h2]
      (repeat refine gg ?_)
      refine join_w Q (fun K1 hK1 => ?_) (fun w' hq => hK _ hq)
      replace fin : ∀ w9 X, blk w9 (hsz w3) = some (.cells (encAx X).toArray 95 (0, 0)) → X = P → Fr [hsz w3] w8 w9 → K1 w9 := fun w9 X hb he hf => hK1 _ (by rw [hQ]; exact ⟨by rw [← he]; exact hb, hf⟩)
      by_cases h3 : k = 3
      · obtain ⟨a, b, rfl⟩ := two (l := ns) (by rw [hlen, h3]; rfl)
        obtain ⟨q0, p0, i0, l0⟩ := rd 0 a rfl
        obtain ⟨q1, p1, i1, l1⟩ := rd 1 b rfl
        have l00 := l0 w8 (Fr.refl _ _)
        have mv := sm2_v a
        have mc := sm2_c a
        have ml := sm2_less a
        (repeat refine gg ?_)
        refine fstore_step (j := 1) (u := .int .i64 (sm2 a - 1)) b8 ⟨rfl, rfl⟩ (by simp [encAx]) fun w11 c11 f11 z11 => ?_
        have b111 := f11.some (by simp; omega) b18
        have l11 := l1 w11 f11
        (repeat refine gg ?_)
        refine fstore_step (j := 3) (u := .int .u64 (b : Int)) c11 ⟨rfl, rfl⟩ (by simp [encAx]) fun w12 c12 f12 z12 => ?_
        refine fin w12 ⟨k, sm2 a - 1, 0, b, t, 0, 0, 0⟩ c12 ?_ (f11.trans' f12)
        rw [hP]; unfold preB; simp [h3]
      (repeat refine gg ?_)
      refine join_v (fun v w' => v = .bool (id2D k) ∧ w8 = w') (fun K2 hK2 => ?_) ?_
      · unfold id2D at hK2
        by_cases h5 : k = 5
        · (repeat refine gg ?_)
          exact hK2 _ _ ⟨by simp [h5], rfl⟩
        · (repeat refine gg ?_)
          exact hK2 _ _ ⟨by simp [h5], rfl⟩
      rintro _ _ ⟨rfl, rfl⟩
      refine join_w Q (fun K2 hK2 => ?_) (fun w' hq => hK1 _ hq)
      replace fin : ∀ w9 X, blk w9 (hsz w3) = some (.cells (encAx X).toArray 95 (0, 0)) → X = P → Fr [hsz w3] w8 w9 → K2 w9 := fun w9 X hb he hf => hK2 _ (by rw [hQ]; exact ⟨by rw [← he]; exact hb, hf⟩)
      unfold preB at hP
      rw [if_neg h2, if_neg h3] at hP
      cases h56 : id2D k with
      | true =>
        obtain ⟨a, b, rfl⟩ := two (l := ns) (by rw [hlen]; unfold id2D at h56; simp only [Bool.or_eq_true, decide_eq_true_eq] at h56; rcases h56 with rfl | rfl <;> rfl)
        obtain ⟨q0, p0, i0, l0⟩ := rd 0 a rfl
        obtain ⟨q1, p1, i1, l1⟩ := rd 1 b rfl
        have l00 := l0 w8 (Fr.refl _ _)
        (repeat refine gg ?_)
        refine fstore_step (j := 2) (u := .int .u64 (a : Int)) b8 ⟨rfl, rfl⟩ (by simp [encAx]) fun w11 c11 f11 z11 => ?_
        have b111 := f11.some (by simp; omega) b18
        have l11 := l1 w11 f11
        (repeat refine gg ?_)
        refine fstore_step (j := 3) (u := .int .u64 (b : Int)) c11 ⟨rfl, rfl⟩ (by simp [encAx]) fun w12 c12 f12 z12 => ?_
        refine fin w12 ⟨k, 0, a, b, t, 0, 0, 0⟩ c12 ?_ (f11.trans' f12)
        rw [hP, if_pos h56]; rfl
      | false =>
        (repeat refine gg ?_)
        refine join_v (fun v w' => v = .bool (idD k) ∧ w8 = w') (fun K3 hK3 => ?_) ?_
        · unfold idD at hK3
          by_cases h4 : k = 4
          · (repeat refine gg ?_)
            exact hK3 _ _ ⟨by simp [h4], rfl⟩
          · (repeat refine gg ?_)
            refine join_v (fun v w' => v = .bool (decide (k = 8) || decide (k = 9)) ∧ w8 = w') (fun K4 hK4 => ?_) ?_
            · by_cases h8 : k = 8
              · (repeat refine gg ?_)
                exact hK4 _ _ ⟨by simp [h8], rfl⟩
              · (repeat refine gg ?_)
                exact hK4 _ _ ⟨by simp [h8], rfl⟩
            · rintro _ _ ⟨rfl, rfl⟩
              exact hK3 _ _ ⟨by simp [h4], rfl⟩
        rintro _ _ ⟨rfl, rfl⟩
        refine join_w Q (fun K3 hK3 => ?_) (fun w' hq => hK2 _ hq)
        replace fin : ∀ w9 X, blk w9 (hsz w3) = some (.cells (encAx X).toArray 95 (0, 0)) → X = P → Fr [hsz w3] w8 w9 → K3 w9 := fun w9 X hb he hf => hK3 _ (by rw [hQ]; exact ⟨by rw [← he]; exact hb, hf⟩)
        rw [h56] at hP
        simp only [Bool.false_eq_true, if_false] at hP
        cases h489 : idD k with
        | true =>
          obtain ⟨a, rfl⟩ := one (l := ns) (by rw [hlen]; unfold idD at h489; simp only [Bool.or_eq_true, decide_eq_true_eq] at h489; rcases h489 with (rfl | rfl) | rfl <;> rfl)
          obtain ⟨q0, p0, i0, l0⟩ := rd 0 a rfl
          have l00 := l0 w8 (Fr.refl _ _)
          (repeat refine gg ?_)
          refine fstore_step (j := 2) (u := .int .u64 (a : Int)) b8 ⟨rfl, rfl⟩ (by simp [encAx]) fun w10 c10 f10 z10 => ?_
          refine fin w10 ⟨k, 0, a, 0, t, 0, 0, 0⟩ c10 ?_ f10
          rw [hP, if_pos h489]; rfl
        | false =>
          (repeat refine gg ?_)
          refine join_v (fun v w' => v = .bool (decide (k = 7) || decide (k = 10)) ∧ w8 = w') (fun K4 hK4 => ?_) ?_
          · by_cases h7 : k = 7
            · (repeat refine gg ?_)
              exact hK4 _ _ ⟨by simp [h7], rfl⟩
            · (repeat refine gg ?_)
              exact hK4 _ _ ⟨by simp [h7], rfl⟩
          rintro _ _ ⟨rfl, rfl⟩
          refine join_w Q (fun K4 hK4 => ?_) (fun w' hq => hK3 _ hq)
          replace fin : ∀ w9 X, blk w9 (hsz w3) = some (.cells (encAx X).toArray 95 (0, 0)) → X = P → Fr [hsz w3] w8 w9 → K4 w9 := fun w9 X hb he hf => hK4 _ (by rw [hQ]; exact ⟨by rw [← he]; exact hb, hf⟩)
          rw [h489] at hP
          simp only [Bool.false_eq_true, if_false] at hP
          cases h710 : (decide (k = 7) || decide (k = 10)) with
          | true =>
            simp only [Bool.or_eq_true, decide_eq_true_eq] at h710
            obtain ⟨a, rfl⟩ := one (l := ns) (by rw [hlen]; rcases h710 with rfl | rfl <;> rfl)
            obtain ⟨q0, p0, i0, l0⟩ := rd 0 a rfl
            have l00 := l0 w8 (Fr.refl _ _)
            (repeat refine gg ?_)
            refine fstore_step (j := 3) (u := .int .u64 (a : Int)) b8 ⟨rfl, rfl⟩ (by simp [encAx]) fun w10 c10 f10 z10 => ?_
            refine fin w10 ⟨k, 0, 0, a, t, 0, 0, 0⟩ c10 ?_ f10
            rw [hP, if_pos h710]; rfl
          | false =>
            simp only [Bool.or_eq_false_iff, decide_eq_false_iff_not] at h710
            (repeat refine gg ?_)
            refine fin w8 ⟨k, 0, 0, 0, t, 0, 0, 0⟩ b8 ?_ (Fr.refl _ _)
            rw [hP, if_neg (by omega)]
    · rw [hQ] at hq
      obtain ⟨c9, f9⟩ := hq
      have b29 := f9.some (by simp; omega) b28
      (repeat (first | refine BND_step (loadn_all' c9 rfl) ?_ | refine gg ?_))
      refine r12_Right P fun w10 f10 => ?_
      have c10 := f10.some (by simp) c9
      have b210 := f10.some (by simp) b29
      have f010 : Fr [] w w10 := (f08.trans f9 fun b hb => .inr (by simp at hb; omega)).trans' f10
      cases hq : rightA P with
      | false =>
        rw [hq] at hR
        (repeat (first | refine gg ?_ | (apply BND_build (encAx zeroA); exact rfl)))
        refine ret_step (R := fun r w8 => R (.tuple #[r, .int .i64 2]) w8) b210 rfl rfl (encAx_one _) (by simp [encAx]) fun w11 f11 z11 => ?_
        exact hR w11 (f010.trans f11 fun b hb => .inr (by simp at hb; omega))
      | true =>
        rw [hq] at hR
        (repeat (first | refine BND_step (loadn_all' c10 rfl) ?_ | refine gg ?_))
        refine ret_step (R := fun r w8 => R (.tuple #[r, .int .i64 0]) w8) b210 rfl rfl (encAx_one _) (by simp [encAx]) fun w11 f11 z11 => ?_
        exact hR w11 (f010.trans f11 fun b hb => .inr (by simp at hb; omega))
end
end Go.Proofs.YtmefbneoljpbgaaGreatDoor
