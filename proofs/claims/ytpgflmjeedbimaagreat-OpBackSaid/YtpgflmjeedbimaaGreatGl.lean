/- The document's acts of a queue, walked: which may be, their records, and back. No condition but that numbers are of 64 bits. Answers compared; an act, and an answer, of the document's. No condition but sizes. How acts, records and answers that came in read. No condition. An act done. Conditions: numbers are of 64 bits. What the laws of acts use: records compared, what is large, awake. No condition but sizes. Law: acts, records and answers are told as the document says. No condition but that numbers are of 64 bits. Law: acts come back from their records, and records from their acts. No condition but that numbers are of 64 bits. -/
import Derived.Test.YtpgflmjeedbimaaGreatGk
import Derived.Test.YtpgflmjeedbimaaGreatMa
import Derived.Test.YtpgflmjeedbimaaGreatGh
set_option linter.unusedVariables false
set_option linter.unusedSimpArgs false
section
namespace Go.Proofs.YtpgflmjeedbimaaGreat
open Go.Den Go.Disk Go.Vint Go.Crc Go.Frame Go.Rec Go.Ev
theorem right_iff2 {o : Ax} (hd : 1 ≤ o.d ∧ o.d ≤ 10) : rightA o = true ↔ (¬ (o.d = 4 ∨ o.d = 5 ∨ o.d = 6 ∨ o.d = 8 ∨ o.d = 9) → o.id = 0) ∧ (¬ (o.d = 2 ∨ o.d = 3 ∨ o.d = 5 ∨ o.d = 6 ∨ o.d = 7 ∨ o.d = 10) → o.n = 0) ∧ (o.d ≠ 10 → o.name = noB) ∧ o.name.size ≤ 64 ∧
    (o.d ≠ 2 → o.seg = 0 ∧ o.at_ = 0 ∧ o.size = 0) ∧ (o.d = 2 → 0 ≤ o.size ∧ o.size ≤ 64) ∧ (o.d = 2 → 0 ≤ o.lane ∧ o.lane ≤ 7) ∧ (o.d = 3 → -1 ≤ o.lane ∧ o.lane ≤ 7) ∧ (o.d ≠ 2 → o.d ≠ 3 → o.lane = 0) := by
  rw [rightA_iff]
  have key : RightA o ↔ o = keptA o ∧ o.name.size ≤ 64 ∧ mayA o = true := ⟨fun ⟨_, a, b, c⟩ => ⟨a, b, c⟩, fun ⟨a, b, c⟩ => ⟨hd, a, b, c⟩⟩
  rw [key]
  obtain ⟨d, lane, id, n, name, seg, at_, size⟩ := o
  simp only at hd ⊢
  rcases ten hd with rfl | rfl | rfl | rfl | rfl | rfl | rfl | rfl | rfl | rfl
  all_goals
    simp [keptA, mayA, id2D, idD, Ax.mk.injEq]
    constructor
    · intro h
      refine ⟨?_, ?_⟩ <;> first | omega | (simp_all [noB_size]; done) | (simp_all [noB_size]; omega)
    · intro h
      refine ⟨?_, ?_⟩ <;> first | omega | (simp_all [noB_size]; done) | (simp_all [noB_size]; omega)
theorem neW (o : Ax) : eqaggv [(0, (.int .u64)), (1, (.int .u64)), (2, (.int .i64))] .neq (.agg [Value.int .u64 (o.seg : Int), .int .u64 (o.at_ : Int), .int .i64 o.size].toArray) (.agg [Value.int .u64 0, .int .u64 0, .int .i64 0].toArray) = some (.bool (!decide ((o.seg : Int) = 0 ∧ (o.at_ : Int) = 0 ∧ o.size = 0))) := by
  refine eqagg_ne ?_
  rw [eqCells_int (xs := [_, _, _]) (ys := [_, _, _]) rfl rfl, eqCells_int (xs := [_, _, _]) (ys := [_, _, _]) rfl rfl, eqCells_int (xs := [_, _, _]) (ys := [_, _, _]) rfl rfl, eqCells_nil]
  by_cases h1 : o.seg = 0 <;> by_cases h2 : o.at_ = 0 <;> by_cases h3 : o.size = 0 <;> simp [h1, h2, h3]
def sm2 (n : Nat) : Int := ((min n 1000 : Nat) : Int)
theorem sm2_v (n : Nat) : min2v (.int .u64 (n : Int)) (.int .u64 1000) = some (.int .u64 (sm2 n)) := by
  show some (Value.int .u64 (if (1000 : Int) < (n : Int) then 1000 else (n : Int))) = _
  unfold sm2
  congr 2
  split <;> omega
theorem sm2_c (n : Nat) : convi .i64 (.int .u64 (sm2 n)) = some (.int .i64 (sm2 n)) := by
  unfold sm2
  exact convi64 (by omega)
theorem sm2_less (n : Nat) : binv .int .sub (.int .i64 (sm2 n)) (.int .i64 1) = some (.int .i64 (sm2 n - 1)) := by
  unfold sm2
  rw [binv_sub, wrap_i64 (by omega) (by omega)]
def preB (k : Int) (ns : List Nat) (t : ByteArray) : Ax :=
  if k = 2 then ⟨2, sm2 (ns.getD 0 0), 0, ns.getD 1 0, t, ns.getD 2 0, ns.getD 3 0, sm2 (ns.getD 4 0)⟩ else
  if k = 3 then ⟨3, sm2 (ns.getD 0 0) - 1, 0, ns.getD 1 0, t, 0, 0, 0⟩ else
  if id2D k = true then ⟨k, 0, ns.getD 0 0, ns.getD 1 0, t, 0, 0, 0⟩ else
  if idD k = true then ⟨k, 0, ns.getD 0 0, 0, t, 0, 0, 0⟩ else
  if k = 7 ∨ k = 10 then ⟨k, 0, 0, ns.getD 0 0, t, 0, 0, 0⟩ else ⟨k, 0, 0, 0, t, 0, 0, 0⟩
theorem preB_of {k : Int} (hk : 0 ≤ k) (ns : List Nat) (t : ByteArray) : (if rightA (preB k ns t) = true then (preB k ns t, (0 : Int)) else (zeroA, 2)) = ofA ⟨k.toNat, ns, t.data.toList⟩ := by
  have ek : ((k.toNat : Nat) : Int) = k := by omega
  unfold ofA
  by_cases h2 : k = 2
  · have e1 : preB k ns t = ⟨2, sm2 (ns.getD 0 0), 0, ns.getD 1 0, t, ns.getD 2 0, ns.getD 3 0, sm2 (ns.getD 4 0)⟩ := by unfold preB; rw [if_pos h2]
    have e2 : preA ⟨k.toNat, ns, t.data.toList⟩ = ⟨2, sml (ns.getD 0 0), 0, ns.getD 1 0, t, ns.getD 2 0, ns.getD 3 0, sml (ns.getD 4 0)⟩ := by unfold preA; simp [h2, txB_data]
    rw [e1, e2]
    by_cases hs : ns.getD 0 0 < 1000 ∧ ns.getD 4 0 < 1000
    · have a : sm2 (ns.getD 0 0) = sml (ns.getD 0 0) := by unfold sm2 sml; omega
      have b : sm2 (ns.getD 4 0) = sml (ns.getD 4 0) := by unfold sm2 sml; omega
      rw [a, b]
    · have n1 : rightA ⟨2, sm2 (ns.getD 0 0), 0, ns.getD 1 0, t, ns.getD 2 0, ns.getD 3 0, sm2 (ns.getD 4 0)⟩ = false := by
        rw [← Bool.not_eq_true]
        intro h
        have := (right_iff2 (by simp)).1 h
        have q1 := this.2.2.2.2.2.2.1 rfl
        have q2 := this.2.2.2.2.2.1 rfl
        dsimp only [sm2] at q1 q2
        omega
      have n2 : rightA ⟨2, sml (ns.getD 0 0), 0, ns.getD 1 0, t, ns.getD 2 0, ns.getD 3 0, sml (ns.getD 4 0)⟩ = false := by
        rw [← Bool.not_eq_true]
        intro h
        have := (right_iff2 (by simp)).1 h
        have q1 := this.2.2.2.2.2.2.1 rfl
        have q2 := this.2.2.2.2.2.1 rfl
        dsimp only [sml] at q1 q2
        omega
      rw [n1, n2]; rfl
  · by_cases h3 : k = 3
    · have e1 : preB k ns t = ⟨3, sm2 (ns.getD 0 0) - 1, 0, ns.getD 1 0, t, 0, 0, 0⟩ := by unfold preB; rw [if_neg h2, if_pos h3]
      have e2 : preA ⟨k.toNat, ns, t.data.toList⟩ = ⟨3, sml (ns.getD 0 0) - 1, 0, ns.getD 1 0, t, 0, 0, 0⟩ := by unfold preA; simp [h3, txB_data]
      rw [e1, e2]
      by_cases hs : ns.getD 0 0 < 1000
      · have a : sm2 (ns.getD 0 0) = sml (ns.getD 0 0) := by unfold sm2 sml; omega
        rw [a]
      · have n1 : rightA ⟨3, sm2 (ns.getD 0 0) - 1, 0, ns.getD 1 0, t, 0, 0, 0⟩ = false := by
          rw [← Bool.not_eq_true]
          intro h
          have := (right_iff2 (by simp)).1 h
          have q1 := this.2.2.2.2.2.2.2.1 rfl
          dsimp only [sm2] at q1
          omega
        have n2 : rightA ⟨3, sml (ns.getD 0 0) - 1, 0, ns.getD 1 0, t, 0, 0, 0⟩ = false := by
          rw [← Bool.not_eq_true]
          intro h
          have := (right_iff2 (by simp)).1 h
          have q1 := this.2.2.2.2.2.2.2.1 rfl
          dsimp only [sml] at q1
          omega
        rw [n1, n2]; rfl
    · have e : preA ⟨k.toNat, ns, t.data.toList⟩ = preB k ns t := by
        unfold preA preB
        simp only [txB_data, ek]
        rw [if_neg (by omega), if_neg (by omega), if_neg h2, if_neg h3]
        congr 2
        by_cases hh : k = 7 ∨ k = 10
        · rw [if_pos hh, if_pos (by omega)]
        · rw [if_neg hh, if_neg (by omega)]
      rw [e]
set_option linter.unusedSimpArgs false
set_option linter.unusedVariables false
set_option maxRecDepth 20000
set_option maxHeartbeats 4000000
attribute [local congr] BND_cg COND_cg GEF_cg
attribute [local irreducible] capl slicea load1 loadn iaddr iaddra faddr storev newslice binv lookv mupd mdel mlenv mentry mestore slicev slicev3 slices indexs indexav textv rangev nexts clearv shiftv eqaggv convi buildv pickv lens lenl unv nilchk extractv partn JOIN
section
variable {w : World} {R : Value → World → Prop}
theorem r12_Right (o : Ax) (hR : ∀ w', Fr [] w w' → R (.bool (rightA o)) w') : CALL PR F_tumbrelref12_Right [.agg (encAx o).toArray] w R := by
  refine C_tumbrelref12_Right ?_
  unfold M_tumbrelref12_Right
  refine NEW_intro fun w1 b1 f1 z1 => ?_
  replace b1 : blk w1 (hsz w) = some (.cells (encAx o).toArray 37 (0, 0)) := b1
  have yes : rightA o = true → R (.bool true) w1 := fun h => by have := hR w1 f1; rwa [h] at this
  have no : (rightA o = true → False) → R (.bool false) w1 := fun h => by have := hR w1 f1; rwa [Bool.eq_false_iff.2 h] at this
  have el : loadn 3 w1 (.pointer (some ⟨hsz w, 0 + 5, none⟩)) = some (.agg [Value.int .u64 (o.seg : Int), .int .u64 (o.at_ : Int), .int .i64 o.size].toArray) := loadn_blk (o := 0 + 5) (n := 3) b1 (by simp [encAx])
  by_cases h1 : o.d < 1
  · (repeat refine gg ?_)
    exact no fun h => by have := (rightA_iff.1 h).d; omega
  by_cases h2 : 10 < o.d
  · (repeat refine gg ?_)
    exact no fun h => by have := (rightA_iff.1 h).d; omega
  have hd : 1 ≤ o.d ∧ o.d ≤ 10 := by omega
  rcases ten hd with h9 | h9 | h9 | h9 | h9 | h9 | h9 | h9 | h9 | h9
  · (repeat refine gg ?_)
    by_cases c1 : ¬ (o.id : Int) = 0
    · (repeat refine gg ?_)
      exact no fun h => by have := (right_iff2 hd).1 h; omega
    replace c1 := Decidable.not_not.1 c1
    (repeat refine gg ?_)
    by_cases c2 : ¬ (o.n : Int) = 0
    · (repeat refine gg ?_)
      exact no fun h => by have := (right_iff2 hd).1 h; omega
    replace c2 := Decidable.not_not.1 c2
    (repeat refine gg ?_)
    by_cases c3 : ¬ o.name = ⟨#[]⟩
    · (repeat refine gg ?_)
      exact no fun h => c3 (((right_iff2 hd).1 h).2.2.1 (by omega))
    replace c3 := Decidable.not_not.1 c3
    (repeat refine gg ?_)
    by_cases c4 : (64 : Int) < (o.name.size : Int)
    · (repeat refine gg ?_)
      exact no fun h => by have := (right_iff2 hd).1 h; omega
    (repeat refine gg ?_)
    by_cases c5 : ¬ ((o.seg : Int) = 0 ∧ (o.at_ : Int) = 0 ∧ o.size = 0)
    · have ew := neW o
      rw [decide_eq_false c5] at ew
      (repeat (first | refine gg ?_ | (apply BND_build ([.int .u64 0, .int .u64 0, .int .i64 0]); exact rfl)))
      exact no fun h => c5 (by have := (right_iff2 hd).1 h; omega)
    replace c5 := Decidable.not_not.1 c5
    have ew := neW o
    rw [decide_eq_true c5] at ew
    obtain ⟨c51, c52, c53⟩ := c5
    (repeat (first | refine gg ?_ | (apply BND_build ([.int .u64 0, .int .u64 0, .int .i64 0]); exact rfl)))
    by_cases c8 : o.lane = 0
    · rw [decide_eq_true c8]
      exact yes ((right_iff2 hd).2 ⟨by omega, by omega, fun _ => c3, by omega, by omega, by omega, by omega, by omega, by omega⟩)
    · rw [decide_eq_false c8]
      exact no fun h => by have := (right_iff2 hd).1 h; omega
  · (repeat refine gg ?_)
    by_cases c1 : ¬ (o.id : Int) = 0
    · (repeat refine gg ?_)
      exact no fun h => by have := (right_iff2 hd).1 h; omega
    replace c1 := Decidable.not_not.1 c1
    (repeat refine gg ?_)
    by_cases c3 : ¬ o.name = ⟨#[]⟩
    · (repeat refine gg ?_)
      exact no fun h => c3 (((right_iff2 hd).1 h).2.2.1 (by omega))
    replace c3 := Decidable.not_not.1 c3
    (repeat refine gg ?_)
    by_cases c4 : (64 : Int) < (o.name.size : Int)
    · (repeat refine gg ?_)
      exact no fun h => by have := (right_iff2 hd).1 h; omega
    (repeat refine gg ?_)
    by_cases c5 : o.size < 0
    · (repeat refine gg ?_)
      exact no fun h => by have := (right_iff2 hd).1 h; omega
    (repeat refine gg ?_)
    by_cases c6 : (64 : Int) < o.size
    · (repeat refine gg ?_)
      exact no fun h => by have := (right_iff2 hd).1 h; omega
    (repeat refine gg ?_)
    by_cases c7 : ¬ (0 : Int) ≤ o.lane
    · (repeat refine gg ?_)
      exact no fun h => by have := (right_iff2 hd).1 h; omega
    replace c7 := Decidable.not_not.1 c7
    (repeat refine gg ?_)
    by_cases c8 : o.lane ≤ 7
    · rw [decide_eq_true c8]
      exact yes ((right_iff2 hd).2 ⟨by omega, by omega, fun _ => c3, by omega, by omega, by omega, by omega, by omega, by omega⟩)
    · rw [decide_eq_false c8]
      exact no fun h => by have := (right_iff2 hd).1 h; omega
  · (repeat refine gg ?_)
    by_cases c1 : ¬ (o.id : Int) = 0
    · (repeat refine gg ?_)
      exact no fun h => by have := (right_iff2 hd).1 h; omega
    replace c1 := Decidable.not_not.1 c1
    (repeat refine gg ?_)
    by_cases c3 : ¬ o.name = ⟨#[]⟩
    · (repeat refine gg ?_)
      exact no fun h => c3 (((right_iff2 hd).1 h).2.2.1 (by omega))
    replace c3 := Decidable.not_not.1 c3
    (repeat refine gg ?_)
    by_cases c4 : (64 : Int) < (o.name.size : Int)
    · (repeat refine gg ?_)
      exact no fun h => by have := (right_iff2 hd).1 h; omega
    (repeat refine gg ?_)
    by_cases c5 : ¬ ((o.seg : Int) = 0 ∧ (o.at_ : Int) = 0 ∧ o.size = 0)
    · have ew := neW o
      rw [decide_eq_false c5] at ew
      (repeat (first | refine gg ?_ | (apply BND_build ([.int .u64 0, .int .u64 0, .int .i64 0]); exact rfl)))
      exact no fun h => c5 (by have := (right_iff2 hd).1 h; omega)
    replace c5 := Decidable.not_not.1 c5
    have ew := neW o
    rw [decide_eq_true c5] at ew
    obtain ⟨c51, c52, c53⟩ := c5
    (repeat (first | refine gg ?_ | (apply BND_build ([.int .u64 0, .int .u64 0, .int .i64 0]); exact rfl)))
    by_cases c7 : ¬ (-1 : Int) ≤ o.lane
    · (repeat refine gg ?_)
      exact no fun h => by have := (right_iff2 hd).1 h; omega
    replace c7 := Decidable.not_not.1 c7
    (repeat refine gg ?_)
    by_cases c8 : o.lane ≤ 7
    · rw [decide_eq_true c8]
      exact yes ((right_iff2 hd).2 ⟨by omega, by omega, fun _ => c3, by omega, by omega, by omega, by omega, by omega, by omega⟩)
    · rw [decide_eq_false c8]
      exact no fun h => by have := (right_iff2 hd).1 h; omega
  · (repeat refine gg ?_)
    by_cases c2 : ¬ (o.n : Int) = 0
    · (repeat refine gg ?_)
      exact no fun h => by have := (right_iff2 hd).1 h; omega
    replace c2 := Decidable.not_not.1 c2
    (repeat refine gg ?_)
    by_cases c3 : ¬ o.name = ⟨#[]⟩
    · (repeat refine gg ?_)
      exact no fun h => c3 (((right_iff2 hd).1 h).2.2.1 (by omega))
    replace c3 := Decidable.not_not.1 c3
    (repeat refine gg ?_)
    by_cases c4 : (64 : Int) < (o.name.size : Int)
    · (repeat refine gg ?_)
      exact no fun h => by have := (right_iff2 hd).1 h; omega
    (repeat refine gg ?_)
    by_cases c5 : ¬ ((o.seg : Int) = 0 ∧ (o.at_ : Int) = 0 ∧ o.size = 0)
    · have ew := neW o
      rw [decide_eq_false c5] at ew
      (repeat (first | refine gg ?_ | (apply BND_build ([.int .u64 0, .int .u64 0, .int .i64 0]); exact rfl)))
      exact no fun h => c5 (by have := (right_iff2 hd).1 h; omega)
    replace c5 := Decidable.not_not.1 c5
    have ew := neW o
    rw [decide_eq_true c5] at ew
    obtain ⟨c51, c52, c53⟩ := c5
    (repeat (first | refine gg ?_ | (apply BND_build ([.int .u64 0, .int .u64 0, .int .i64 0]); exact rfl)))
    by_cases c8 : o.lane = 0
    · rw [decide_eq_true c8]
      exact yes ((right_iff2 hd).2 ⟨by omega, by omega, fun _ => c3, by omega, by omega, by omega, by omega, by omega, by omega⟩)
    · rw [decide_eq_false c8]
      exact no fun h => by have := (right_iff2 hd).1 h; omega
  · (repeat refine gg ?_)
    by_cases c3 : ¬ o.name = ⟨#[]⟩
    · (repeat refine gg ?_)
      exact no fun h => c3 (((right_iff2 hd).1 h).2.2.1 (by omega))
    replace c3 := Decidable.not_not.1 c3
    (repeat refine gg ?_)
    by_cases c4 : (64 : Int) < (o.name.size : Int)
    · (repeat refine gg ?_)
      exact no fun h => by have := (right_iff2 hd).1 h; omega
    (repeat refine gg ?_)
    by_cases c5 : ¬ ((o.seg : Int) = 0 ∧ (o.at_ : Int) = 0 ∧ o.size = 0)
    · have ew := neW o
      rw [decide_eq_false c5] at ew
      (repeat (first | refine gg ?_ | (apply BND_build ([.int .u64 0, .int .u64 0, .int .i64 0]); exact rfl)))
      exact no fun h => c5 (by have := (right_iff2 hd).1 h; omega)
    replace c5 := Decidable.not_not.1 c5
    have ew := neW o
    rw [decide_eq_true c5] at ew
    obtain ⟨c51, c52, c53⟩ := c5
    (repeat (first | refine gg ?_ | (apply BND_build ([.int .u64 0, .int .u64 0, .int .i64 0]); exact rfl)))
    by_cases c8 : o.lane = 0
    · rw [decide_eq_true c8]
      exact yes ((right_iff2 hd).2 ⟨by omega, by omega, fun _ => c3, by omega, by omega, by omega, by omega, by omega, by omega⟩)
    · rw [decide_eq_false c8]
      exact no fun h => by have := (right_iff2 hd).1 h; omega
  · (repeat refine gg ?_)
    by_cases c3 : ¬ o.name = ⟨#[]⟩
    · (repeat refine gg ?_)
      exact no fun h => c3 (((right_iff2 hd).1 h).2.2.1 (by omega))
    replace c3 := Decidable.not_not.1 c3
    (repeat refine gg ?_)
    by_cases c4 : (64 : Int) < (o.name.size : Int)
    · (repeat refine gg ?_)
      exact no fun h => by have := (right_iff2 hd).1 h; omega
    (repeat refine gg ?_)
    by_cases c5 : ¬ ((o.seg : Int) = 0 ∧ (o.at_ : Int) = 0 ∧ o.size = 0)
    · have ew := neW o
      rw [decide_eq_false c5] at ew
      (repeat (first | refine gg ?_ | (apply BND_build ([.int .u64 0, .int .u64 0, .int .i64 0]); exact rfl)))
      exact no fun h => c5 (by have := (right_iff2 hd).1 h; omega)
    replace c5 := Decidable.not_not.1 c5
    have ew := neW o
    rw [decide_eq_true c5] at ew
    obtain ⟨c51, c52, c53⟩ := c5
    (repeat (first | refine gg ?_ | (apply BND_build ([.int .u64 0, .int .u64 0, .int .i64 0]); exact rfl)))
    by_cases c8 : o.lane = 0
    · rw [decide_eq_true c8]
      exact yes ((right_iff2 hd).2 ⟨by omega, by omega, fun _ => c3, by omega, by omega, by omega, by omega, by omega, by omega⟩)
    · rw [decide_eq_false c8]
      exact no fun h => by have := (right_iff2 hd).1 h; omega
  · (repeat refine gg ?_)
    by_cases c1 : ¬ (o.id : Int) = 0
    · (repeat refine gg ?_)
      exact no fun h => by have := (right_iff2 hd).1 h; omega
    replace c1 := Decidable.not_not.1 c1
    (repeat refine gg ?_)
    by_cases c3 : ¬ o.name = ⟨#[]⟩
    · (repeat refine gg ?_)
      exact no fun h => c3 (((right_iff2 hd).1 h).2.2.1 (by omega))
    replace c3 := Decidable.not_not.1 c3
    (repeat refine gg ?_)
    by_cases c4 : (64 : Int) < (o.name.size : Int)
    · (repeat refine gg ?_)
      exact no fun h => by have := (right_iff2 hd).1 h; omega
    (repeat refine gg ?_)
    by_cases c5 : ¬ ((o.seg : Int) = 0 ∧ (o.at_ : Int) = 0 ∧ o.size = 0)
    · have ew := neW o
      rw [decide_eq_false c5] at ew
      (repeat (first | refine gg ?_ | (apply BND_build ([.int .u64 0, .int .u64 0, .int .i64 0]); exact rfl)))
      exact no fun h => c5 (by have := (right_iff2 hd).1 h; omega)
    replace c5 := Decidable.not_not.1 c5
    have ew := neW o
    rw [decide_eq_true c5] at ew
    obtain ⟨c51, c52, c53⟩ := c5
    (repeat (first | refine gg ?_ | (apply BND_build ([.int .u64 0, .int .u64 0, .int .i64 0]); exact rfl)))
    by_cases c8 : o.lane = 0
    · rw [decide_eq_true c8]
      exact yes ((right_iff2 hd).2 ⟨by omega, by omega, fun _ => c3, by omega, by omega, by omega, by omega, by omega, by omega⟩)
    · rw [decide_eq_false c8]
      exact no fun h => by have := (right_iff2 hd).1 h; omega
  · (repeat refine gg ?_)
    by_cases c2 : ¬ (o.n : Int) = 0
    · (repeat refine gg ?_)
      exact no fun h => by have := (right_iff2 hd).1 h; omega
    replace c2 := Decidable.not_not.1 c2
    (repeat refine gg ?_)
    by_cases c3 : ¬ o.name = ⟨#[]⟩
    · (repeat refine gg ?_)
      exact no fun h => c3 (((right_iff2 hd).1 h).2.2.1 (by omega))
    replace c3 := Decidable.not_not.1 c3
    (repeat refine gg ?_)
    by_cases c4 : (64 : Int) < (o.name.size : Int)
    · (repeat refine gg ?_)
      exact no fun h => by have := (right_iff2 hd).1 h; omega
    (repeat refine gg ?_)
    by_cases c5 : ¬ ((o.seg : Int) = 0 ∧ (o.at_ : Int) = 0 ∧ o.size = 0)
    · have ew := neW o
      rw [decide_eq_false c5] at ew
      (repeat (first | refine gg ?_ | (apply BND_build ([.int .u64 0, .int .u64 0, .int .i64 0]); exact rfl)))
      exact no fun h => c5 (by have := (right_iff2 hd).1 h; omega)
    replace c5 := Decidable.not_not.1 c5
    have ew := neW o
    rw [decide_eq_true c5] at ew
    obtain ⟨c51, c52, c53⟩ := c5
    (repeat (first | refine gg ?_ | (apply BND_build ([.int .u64 0, .int .u64 0, .int .i64 0]); exact rfl)))
    by_cases c8 : o.lane = 0
    · rw [decide_eq_true c8]
      exact yes ((right_iff2 hd).2 ⟨by omega, by omega, fun _ => c3, by omega, by omega, by omega, by omega, by omega, by omega⟩)
    · rw [decide_eq_false c8]
      exact no fun h => by have := (right_iff2 hd).1 h; omega
  · (repeat refine gg ?_)
    by_cases c2 : ¬ (o.n : Int) = 0
    · (repeat refine gg ?_)
      exact no fun h => by have := (right_iff2 hd).1 h; omega
    replace c2 := Decidable.not_not.1 c2
    (repeat refine gg ?_)
    by_cases c3 : ¬ o.name = ⟨#[]⟩
    · (repeat refine gg ?_)
      exact no fun h => c3 (((right_iff2 hd).1 h).2.2.1 (by omega))
    replace c3 := Decidable.not_not.1 c3
    (repeat refine gg ?_)
    by_cases c4 : (64 : Int) < (o.name.size : Int)
    · (repeat refine gg ?_)
      exact no fun h => by have := (right_iff2 hd).1 h; omega
    (repeat refine gg ?_)
    by_cases c5 : ¬ ((o.seg : Int) = 0 ∧ (o.at_ : Int) = 0 ∧ o.size = 0)
    · have ew := neW o
      rw [decide_eq_false c5] at ew
      (repeat (first | refine gg ?_ | (apply BND_build ([.int .u64 0, .int .u64 0, .int .i64 0]); exact rfl)))
      exact no fun h => c5 (by have := (right_iff2 hd).1 h; omega)
    replace c5 := Decidable.not_not.1 c5
    have ew := neW o
    rw [decide_eq_true c5] at ew
    obtain ⟨c51, c52, c53⟩ := c5
    (repeat (first | refine gg ?_ | (apply BND_build ([.int .u64 0, .int .u64 0, .int .i64 0]); exact rfl)))
    by_cases c8 : o.lane = 0
    · rw [decide_eq_true c8]
      exact yes ((right_iff2 hd).2 ⟨by omega, by omega, fun _ => c3, by omega, by omega, by omega, by omega, by omega, by omega⟩)
    · rw [decide_eq_false c8]
      exact no fun h => by have := (right_iff2 hd).1 h; omega
  · (repeat refine gg ?_)
    by_cases c1 : ¬ (o.id : Int) = 0
    · (repeat refine gg ?_)
      exact no fun h => by have := (right_iff2 hd).1 h; omega
    replace c1 := Decidable.not_not.1 c1
    (repeat refine gg ?_)
    by_cases c4 : (64 : Int) < (o.name.size : Int)
    · (repeat refine gg ?_)
      exact no fun h => by have := (right_iff2 hd).1 h; omega
    (repeat refine gg ?_)
    by_cases c5 : ¬ ((o.seg : Int) = 0 ∧ (o.at_ : Int) = 0 ∧ o.size = 0)
    · have ew := neW o
      rw [decide_eq_false c5] at ew
      (repeat (first | refine gg ?_ | (apply BND_build ([.int .u64 0, .int .u64 0, .int .i64 0]); exact rfl)))
      exact no fun h => c5 (by have := (right_iff2 hd).1 h; omega)
    replace c5 := Decidable.not_not.1 c5
    have ew := neW o
    rw [decide_eq_true c5] at ew
    obtain ⟨c51, c52, c53⟩ := c5
    (repeat (first | refine gg ?_ | (apply BND_build ([.int .u64 0, .int .u64 0, .int .i64 0]); exact rfl)))
    by_cases c8 : o.lane = 0
    · rw [decide_eq_true c8]
      exact yes ((right_iff2 hd).2 ⟨by omega, by omega, fun h => absurd h9 h, by omega, by omega, by omega, by omega, by omega, by omega⟩)
    · rw [decide_eq_false c8]
      exact no fun h => by have := (right_iff2 hd).1 h; omega
theorem r12_Record (o : Ax) (hR0 : rightA o = false → ∀ w', Fr [] w w' → R (.tuple #[.agg (encRc (0, nilV, noB)).toArray, .int .i64 1]) w')
    (hR : rightA o = true → ∀ w' (s : SV) H, Slc encU 1 w' s.v (numsA o) H → (∀ b ∈ H, hsz w ≤ b) → Fr [] w w' → R (.tuple #[.agg (encRc (o.d, s, o.name)).toArray, .int .i64 0]) w') : CALL PR F_tumbrelref12_Record [.agg (encAx o).toArray] w R := by
  refine C_tumbrelref12_Record ?_
  unfold M_tumbrelref12_Record
  refine NEW_intro fun w1 b1 f1 z1 => ?_
  replace b1 : blk w1 (hsz w) = some (.cells (encAx o).toArray 37 (0, 0)) := b1
  refine NEW_intro fun w2 b2 f2 z2 => ?_
  replace b2 : blk w2 (hsz w1) = some (.cells (encRc (0, nilV, noB)).toArray 41 (0, 0)) := b2
  have b12 := f2.some (by simp) b1
  (repeat (first | refine BND_step (loadn_all' b12 rfl) ?_ | refine gg ?_))
  refine r12_Right o fun w3 f3 => ?_
  have b13 := f3.some (by simp) b12
  have b23 := f3.some (by simp) b2
  have f03 := (f1.trans' f2).trans' f3
  cases hr : rightA o with
  | false =>
    (repeat (first | refine gg ?_ | (apply BND_build (encRc (0, nilV, noB)); exact rfl)))
    refine ret_step (R := fun r w8 => R (.tuple #[r, .int .i64 1]) w8) b23 rfl rfl (encRc_one _) (by simp [encRc]) fun w4 f4 z4 => ?_
    exact hR0 hr w4 (f03.trans f4 fun b hb => .inr (by simp at hb; omega))
  | true =>
    obtain ⟨hd, hk, hs, hm⟩ := rightA_iff.1 hr
    (repeat (first | refine gg ?_ | (apply BND_build (encRc (o.d, nilV, o.name)); exact rfl)))
    refine box_step (n := 3) (zs := encRc (0, nilV, noB)) (vs := encRc (o.d, nilV, o.name)) rfl rfl (encRc_one _) (by simp [encRc]) fun w6 b6 f6 z6 => ?_
    have b16 := f6.some (by simp) b13
    have b26 := f6.some (by simp) b23
    have f06 := f03.trans' f6
    have gr := f06.grow
    (repeat refine gg ?_)
    obtain ⟨Q, hQ⟩ : ∃ Q : World → Prop, Q = fun w' => ∃ (s : SV) (H : List Nat), blk w' (hsz w3) = some (.cells (encRc (o.d, s, o.name)).toArray 41 (0, 0)) ∧ Slc encU 1 w' s.v (numsA o) H ∧ (∀ b ∈ H, hsz w6 ≤ b) ∧ Fr [hsz w3] w6 w' := ⟨_, rfl⟩
    have put : ∀ (K : World → Prop), (∀ w', Q w' → K w') → ∀ (ps : List (Nat × Nat × Value)) (n : Nat), numsA o ≠ [] → ps = partsAt 1 (fun x : Nat => Value.int .u64 (x : Int)) 0 (numsA o) → n = (numsA o).length →
        BND (newslice 22 #[(Value.int .u64 0)] 1 n ps w6) fun p_ => NEW p_ fun t w9 => BND (faddr 1 (.pointer (some ⟨hsz w3, 0, none⟩))) fun a => BND (storev 1 w9 a t) fun w10 => K w10 := by
      intro K hK ps n hne hps hn
      refine newparts_step encU_len (val := fun x : Nat => Value.int .u64 (x : Int)) (fun _ => rfl) (numsA o) hn hps fun t w9 s9 f9 z9 => ?_
      obtain ⟨x9, rfl⟩ := slc_sv s9
      have b69 := f9.some (by simp) b6
      (repeat refine gg ?_)
      refine fstore_step (j := 1) (u := x9.v) b69 (sv_one x9) (by simp [encRc]) fun w10 b10 f10 z10 => ?_
      refine hK _ (by rw [hQ]; exact ⟨x9, [hsz w6], b10, s9.fr f10 (by simp; omega), by simp, f9.nil.trans f10 fun b hb => .inl hb⟩)
    refine join_w Q (fun K hK => ?_) (fun w7 hq => ?_)
    · by_cases h2 : o.d = 2
      · obtain ⟨m1, m2, m3, m4⟩ := may2 hm h2
        have e : numsA o = [o.lane.toNat, o.n, o.seg, o.at_, o.size.toNat] := by unfold numsA; rw [if_pos h2]
        (repeat (first | refine BND_step (conv_iu (n := o.lane) (by omega)) ?_ | refine BND_step (conv_iu (n := o.size) (by omega)) ?_ | refine gg ?_))
        exact put K hK _ _ (by rw [e]; simp) (by rw [e]; rfl) (by rw [e]; rfl)
      · (repeat refine gg ?_)
        refine join_w Q (fun K1 hK1 => ?_) (fun w' hq => hK _ hq)
        by_cases h3 : o.d = 3
        · obtain ⟨m1, m2⟩ := may3 hm h3
          have e : numsA o = [(o.lane + 1).toNat, o.n] := by unfold numsA; rw [if_neg h2, if_pos h3]
          (repeat (first | refine BND_step (lane_up (n := o.lane) (by omega)) ?_ | refine BND_step (conv_iu (n := o.lane + 1) (by omega)) ?_ | refine gg ?_))
          exact put K1 hK1 _ _ (by rw [e]; simp) (by rw [e]; rfl) (by rw [e]; rfl)
        · (repeat refine gg ?_)
          refine join_v (fun v w' => v = .bool (id2D o.d) ∧ w6 = w') (fun K2 hK2 => ?_) ?_
          · unfold id2D at hK2
            by_cases h5 : o.d = 5
            · (repeat refine gg ?_)
              exact hK2 _ _ ⟨by simp [h5], rfl⟩
            · (repeat refine gg ?_)
              exact hK2 _ _ ⟨by simp [h5], rfl⟩
          rintro _ _ ⟨rfl, rfl⟩
          refine join_w Q (fun K2 hK2 => ?_) (fun w' hq => hK1 _ hq)
          cases h56 : id2D o.d with
          | true =>
            have e : numsA o = [o.id, o.n] := by unfold numsA; rw [if_neg h2, if_neg h3, if_pos h56]
            (repeat refine gg ?_)
            exact put K2 hK2 _ _ (by rw [e]; simp) (by rw [e]; rfl) (by rw [e]; rfl)
          | false =>
            (repeat refine gg ?_)
            refine join_v (fun v w' => v = .bool (idD o.d) ∧ w6 = w') (fun K3 hK3 => ?_) ?_
            · unfold idD at hK3
              by_cases h4 : o.d = 4
              · (repeat refine gg ?_)
                exact hK3 _ _ ⟨by simp [h4], rfl⟩
              · (repeat refine gg ?_)
                refine join_v (fun v w' => v = .bool (decide (o.d = 8) || decide (o.d = 9)) ∧ w6 = w') (fun K4 hK4 => ?_) ?_
                · by_cases h8 : o.d = 8
                  · (repeat refine gg ?_)
                    exact hK4 _ _ ⟨by simp [h8], rfl⟩
                  · (repeat refine gg ?_)
                    exact hK4 _ _ ⟨by simp [h8], rfl⟩
                · rintro _ _ ⟨rfl, rfl⟩
                  exact hK3 _ _ ⟨by simp [h4], rfl⟩
            rintro _ _ ⟨rfl, rfl⟩
            refine join_w Q (fun K3 hK3 => ?_) (fun w' hq => hK2 _ hq)
            cases h489 : idD o.d with
            | true =>
              have e : numsA o = [o.id] := by unfold numsA; rw [if_neg h2, if_neg h3, h56, h489]; simp
              (repeat refine gg ?_)
              exact put K3 hK3 _ _ (by rw [e]; simp) (by rw [e]; rfl) (by rw [e]; rfl)
            | false =>
              (repeat refine gg ?_)
              refine join_v (fun v w' => v = .bool (decide (o.d = 7) || decide (o.d = 10)) ∧ w6 = w') (fun K4 hK4 => ?_) ?_
              · by_cases h7 : o.d = 7
                · (repeat refine gg ?_)
                  exact hK4 _ _ ⟨by simp [h7], rfl⟩
                · (repeat refine gg ?_)
                  exact hK4 _ _ ⟨by simp [h7], rfl⟩
              rintro _ _ ⟨rfl, rfl⟩
              refine join_w Q (fun K4 hK4 => ?_) (fun w' hq => hK3 _ hq)
              cases h710 : (decide (o.d = 7) || decide (o.d = 10)) with
              | true =>
                have e : numsA o = [o.n] := by unfold numsA; rw [if_neg h2, if_neg h3, h56, h489]; simp at h710; simp [h710]
                (repeat refine gg ?_)
                exact put K4 hK4 _ _ (by rw [e]; simp) (by rw [e]; rfl) (by rw [e]; rfl)
              | false =>
                have e : numsA o = [] := by unfold numsA; rw [if_neg h2, if_neg h3, h56, h489]; simp at h710; simp [h710]
                (repeat refine gg ?_)
                refine hK4 _ (by rw [hQ, e]; exact ⟨nilV, [], b6, Slc.nil _ _ _, by simp, Fr.refl _ _⟩)
    · rw [hQ] at hq
      obtain ⟨x7, H, b7, s7, g7, f7⟩ := hq
      have gr3 := f3.grow
      have gr6 := f6.grow
      have gr03 := f03.grow
      have b27 := f7.some (by simp; omega) b26
      (repeat (first | refine BND_step (loadn_all' b7 rfl) ?_ | refine gg ?_))
      refine ret_step (R := fun r w8 => R (.tuple #[r, .int .i64 0]) w8) b27 rfl rfl (encRc_one _) (by simp [encRc]) fun w8 f8 z8 => ?_
      refine hR hr w8 x7 H (s7.fr f8 (fun b hb hb' => ?_)) (fun b hb => ?_) ((f06.trans f7 fun b hb => .inr (by simp at hb; omega)).trans f8 fun b hb => .inr (by simp at hb; omega))
      · have := g7 b hb; simp at hb'; omega
      · have := g7 b hb; omega
theorem r12_Of {nv : SV} {ns : List Nat} (k : Int) (t : ByteArray) (hn : Arr encU 1 w nv.v ns) (hR : ∀ w', Fr [] w w' → R (.tuple #[.agg (encAx (ofR k ns t).1).toArray, .int .i64 (ofR k ns t).2]) w') : CALL PR F_tumbrelref12_Of [.agg (encRc (k, nv, t)).toArray] w R := by
  refine C_tumbrelref12_Of ?_
  unfold M_tumbrelref12_Of
  refine NEW_intro fun w1 b1 f1 z1 => ?_
  replace b1 : blk w1 (hsz w) = some (.cells (encRc (k, nv, t)).toArray 41 (0, 0)) := b1
  refine NEW_intro fun w2 b2 f2 z2 => ?_
  replace b2 : blk w2 (hsz w1) = some (.cells (encAx zeroA).toArray 37 (0, 0)) := b2
  have b12 := f2.some (by simp) b1
  (repeat (first | refine BND_step (loadn_all' b12 rfl) ?_ | refine gg ?_))
  refine r5_Right k t (hn.fr (f1.trans' f2) (by simp)) fun w3 f3 => ?_
  have b13 := f3.some (by simp) b12
  have b23 := f3.some (by simp) b2
  have f03 := (f1.trans' f2).trans' f3
  have g3 := f3.grow
  unfold ofR at hR
  cases hr : rightRk k ns.length t.size with
  | false =>
    rw [hr] at hR
    (repeat (first | refine gg ?_ | (apply BND_build (encAx zeroA); exact rfl)))
    refine ret_step (R := fun r w8 => R (.tuple #[r, .int .i64 2]) w8) b23 rfl rfl (encAx_one _) (by simp [encAx]) fun w4 f4 z4 => ?_
    exact hR w4 (f03.trans f4 fun b hb => .inr (by simp at hb; omega))
  | true =>
    rw [hr] at hR
    simp only [if_true] at hR
    obtain ⟨k1, k17, hlen, hfit⟩ := right_known hr
    rw [← preB_of (by omega)] at hR
    (repeat (first | refine gg ?_ | (apply BND_build (encAx { zeroA with d := k, name := t }); exact rfl)))
    refine box_step (n := 8) (zs := encAx zeroA) (vs := encAx { zeroA with d := k, name := t }) rfl rfl (encAx_one _) (by simp [encAx]) fun w8 b8 f8 z8 => ?_
    have b18 := f8.some (by simp) b13
    have b28 := f8.some (by simp) b23
    have f08 := f03.trans' f8
    have g03 := f03.grow
    have g08 := f08.grow
    obtain ⟨P, hP⟩ : ∃ P, P = preB k ns t := ⟨_, rfl⟩
    rw [← hP] at hR
    obtain ⟨Q, hQ⟩ : ∃ Q : World → Prop, Q = fun w' => blk w' (hsz w3) = some (.cells (encAx P).toArray 37 (0, 0)) ∧ Fr [hsz w3] w8 w' := ⟨_, rfl⟩
    -- the i-th number, in a world that keeps what came in
    have rd : ∀ (i n : Nat), ns[i]? = some n → ∃ b o, iaddr 1 nv.v (.int .i64 (i : Int)) = some (.pointer (some ⟨b, o, none⟩)) ∧ ∀ w', Fr [hsz w3] w8 w' → load1 w' (.pointer (some ⟨b, o, none⟩)) = some (.int .u64 (n : Int)) := fun i n hx => by
      obtain ⟨b, o, ia, _, hb, ld⟩ := hn.spot hx rfl .i64
      exact ⟨b, o, ia, fun w' f => ld (w' := w') ((f.keep b (by omega) (by simp; omega)).trans (f08.keep b hb (by simp))) (j := 0) rfl⟩
    (repeat refine gg ?_)
    refine join_w Q (fun K hK => ?_) (fun w9 hq => ?_)
    · have fin : ∀ w9 X, blk w9 (hsz w3) = some (.cells (encAx X).toArray 37 (0, 0)) → X = P → Fr [hsz w3] w8 w9 → K w9 := fun w9 X hb he hf => hK _ (by rw [hQ]; exact ⟨by rw [← he]; exact hb, hf⟩)
      by_cases h2 : k = 2
      · obtain ⟨a, b, c, d, e, rfl⟩ := five (l := ns) (by rw [hlen, h2]; rfl)
        obtain ⟨q0, p0, i0, l0⟩ := rd 0 a rfl
        obtain ⟨q1, p1, i1, l1⟩ := rd 1 b rfl
        obtain ⟨q2, p2, i2, l2⟩ := rd 2 c rfl
        obtain ⟨q3, p3, i3, l3⟩ := rd 3 d rfl
        obtain ⟨q4, p4, i4, l4⟩ := rd 4 e rfl
        have l00 := l0 w8 (Fr.refl _ _)
        have mv := sm2_v a
        have mc := sm2_c a
        (repeat refine gg ?_)
        refine fstore_step (j := 1) (u := .int .i64 (sm2 a)) b8 ⟨rfl, rfl⟩ (by simp [encAx]) fun w11 c11 f11 z11 => ?_
        have b111 := f11.some (by simp; omega) b18
        have l11 := l1 w11 f11
        (repeat refine gg ?_)
        refine fstore_step (j := 3) (u := .int .u64 (b : Int)) c11 ⟨rfl, rfl⟩ (by simp [encAx]) fun w12 c12 f12 z12 => ?_
        have b112 : blk w12.drew (hsz w) = _ := f12.some (by simp; omega) b111
        have f812 := (f11.trans' f12).trans' (Fr.drew _ _)
        have l22 := l2 _ f812
        have l33 := l3 _ f812
        have l44 := l4 _ f812
        replace c12 : blk w12.drew (hsz w3) = _ := c12
        have mv4 := sm2_v e
        have mc4 := sm2_c e
        (repeat (first | refine gg ?_ | (apply BND_build ([.int .u64 (c : Int), .int .u64 (d : Int), .int .i64 (sm2 e)]); exact rfl)))
        refine fstoren_step (us := [.int .u64 (c : Int), .int .u64 (d : Int), .int .i64 (sm2 e)]) c12 rfl (by simp [encAx]) (by intro u hu; simp at hu; rcases hu with rfl | rfl | rfl <;> rfl) (by simp) fun w15 c15 f15 z15 => ?_
        refine fin w15 ⟨k, sm2 a, 0, b, t, c, d, sm2 e⟩ c15 ?_ (f812.trans' f15)
        rw [hP]; unfold preB; simp [h2]
      (repeat refine gg ?_)
      refine join_w Q (fun K1 hK1 => ?_) (fun w' hq => hK _ hq)
      replace fin : ∀ w9 X, blk w9 (hsz w3) = some (.cells (encAx X).toArray 37 (0, 0)) → X = P → Fr [hsz w3] w8 w9 → K1 w9 := fun w9 X hb he hf => hK1 _ (by rw [hQ]; exact ⟨by rw [← he]; exact hb, hf⟩)
      by_cases h3 : k = 3
      · obtain ⟨a, b, rfl⟩ := two (l := ns) (by rw [hlen, h3]; rfl)
        obtain ⟨q0, p0, i0, l0⟩ := rd 0 a rfl
        obtain ⟨q1, p1, i1, l1⟩ := rd 1 b rfl
        have l00 := l0 w8 (Fr.refl _ _)
        have mv := sm2_v a
        have mc := sm2_c a
        have ml := sm2_less a
        (repeat refine gg ?_)
        refine fstore_step (j := 1) (u := .int .i64 (sm2 a - 1)) b8 ⟨rfl, rfl⟩ (by simp [encAx]) fun w11 c11 f11 z11 => ?_
        have b111 := f11.some (by simp; omega) b18
        have l11 := l1 w11 f11
        (repeat refine gg ?_)
        refine fstore_step (j := 3) (u := .int .u64 (b : Int)) c11 ⟨rfl, rfl⟩ (by simp [encAx]) fun w12 c12 f12 z12 => ?_
        refine fin w12 ⟨k, sm2 a - 1, 0, b, t, 0, 0, 0⟩ c12 ?_ (f11.trans' f12)
        rw [hP]; unfold preB; simp [h3]
      (repeat refine gg ?_)
      refine join_v (fun v w' => v = .bool (id2D k) ∧ w8 = w') (fun K2 hK2 => ?_) ?_
      · unfold id2D at hK2
        by_cases h5 : k = 5
        · (repeat refine gg ?_)
          exact hK2 _ _ ⟨by simp [h5], rfl⟩
        · (repeat refine gg ?_)
          exact hK2 _ _ ⟨by simp [h5], rfl⟩
      rintro _ _ ⟨rfl, rfl⟩
      refine join_w Q (fun K2 hK2 => ?_) (fun w' hq => hK1 _ hq)
      replace fin : ∀ w9 X, blk w9 (hsz w3) = some (.cells (encAx X).toArray 37 (0, 0)) → X = P → Fr [hsz w3] w8 w9 → K2 w9 := fun w9 X hb he hf => hK2 _ (by rw [hQ]; exact ⟨by rw [← he]; exact hb, hf⟩)
      unfold preB at hP
      rw [if_neg h2, if_neg h3] at hP
      cases h56 : id2D k with
      | true =>
        obtain ⟨a, b, rfl⟩ := two (l := ns) (by rw [hlen]; unfold id2D at h56; simp only [Bool.or_eq_true, decide_eq_true_eq] at h56; rcases h56 with rfl | rfl <;> rfl)
        obtain ⟨q0, p0, i0, l0⟩ := rd 0 a rfl
        obtain ⟨q1, p1, i1, l1⟩ := rd 1 b rfl
        have l00 := l0 w8 (Fr.refl _ _)
        (repeat refine gg ?_)
        refine fstore_step (j := 2) (u := .int .u64 (a : Int)) b8 ⟨rfl, rfl⟩ (by simp [encAx]) fun w11 c11 f11 z11 => ?_
        have b111 := f11.some (by simp; omega) b18
        have l11 := l1 w11 f11
        (repeat refine gg ?_)
        refine fstore_step (j := 3) (u := .int .u64 (b : Int)) c11 ⟨rfl, rfl⟩ (by simp [encAx]) fun w12 c12 f12 z12 => ?_
        refine fin w12 ⟨k, 0, a, b, t, 0, 0, 0⟩ c12 ?_ (f11.trans' f12)
        rw [hP, if_pos h56]; rfl
      | false =>
        (repeat refine gg ?_)
        refine join_v (fun v w' => v = .bool (idD k) ∧ w8 = w') (fun K3 hK3 => ?_) ?_
        · unfold idD at hK3
          by_cases h4 : k = 4
          · (repeat refine gg ?_)
            exact hK3 _ _ ⟨by simp [h4], rfl⟩
          · (repeat refine gg ?_)
            refine join_v (fun v w' => v = .bool (decide (k = 8) || decide (k = 9)) ∧ w8 = w') (fun K4 hK4 => ?_) ?_
            · by_cases h8 : k = 8
              · (repeat refine gg ?_)
                exact hK4 _ _ ⟨by simp [h8], rfl⟩
              · (repeat refine gg ?_)
                exact hK4 _ _ ⟨by simp [h8], rfl⟩
            · rintro _ _ ⟨rfl, rfl⟩
              exact hK3 _ _ ⟨by simp [h4], rfl⟩
        rintro _ _ ⟨rfl, rfl⟩
        refine join_w Q (fun K3 hK3 => ?_) (fun w' hq => hK2 _ hq)
        replace fin : ∀ w9 X, blk w9 (hsz w3) = some (.cells (encAx X).toArray 37 (0, 0)) → X = P → Fr [hsz w3] w8 w9 → K3 w9 := fun w9 X hb he hf => hK3 _ (by rw [hQ]; exact ⟨by rw [← he]; exact hb, hf⟩)
        rw [h56] at hP
        simp only [Bool.false_eq_true, if_false] at hP
        cases h489 : idD k with
        | true =>
          obtain ⟨a, rfl⟩ := one (l := ns) (by rw [hlen]; unfold idD at h489; simp only [Bool.or_eq_true, decide_eq_true_eq] at h489; rcases h489 with (rfl | rfl) | rfl <;> rfl)
          obtain ⟨q0, p0, i0, l0⟩ := rd 0 a rfl
          have l00 := l0 w8 (Fr.refl _ _)
          (repeat refine gg ?_)
          refine fstore_step (j := 2) (u := .int .u64 (a : Int)) b8 ⟨rfl, rfl⟩ (by simp [encAx]) fun w10 c10 f10 z10 => ?_
          refine fin w10 ⟨k, 0, a, 0, t, 0, 0, 0⟩ c10 ?_ f10
          rw [hP, if_pos h489]; rfl
        | false =>
          (repeat refine gg ?_)
          refine join_v (fun v w' => v = .bool (decide (k = 7) || decide (k = 10)) ∧ w8 = w') (fun K4 hK4 => ?_) ?_
          · by_cases h7 : k = 7
            · (repeat refine gg ?_)
              exact hK4 _ _ ⟨by simp [h7], rfl⟩
            · (repeat refine gg ?_)
              exact hK4 _ _ ⟨by simp [h7], rfl⟩
          rintro _ _ ⟨rfl, rfl⟩
          refine join_w Q (fun K4 hK4 => ?_) (fun w' hq => hK3 _ hq)
          replace fin : ∀ w9 X, blk w9 (hsz w3) = some (.cells (encAx X).toArray 37 (0, 0)) → X = P → Fr [hsz w3] w8 w9 → K4 w9 := fun w9 X hb he hf => hK4 _ (by rw [hQ]; exact ⟨by rw [← he]; exact hb, hf⟩)
          rw [h489] at hP
          simp only [Bool.false_eq_true, if_false] at hP
          cases h710 : (decide (k = 7) || decide (k = 10)) with
          | true =>
            simp only [Bool.or_eq_true, decide_eq_true_eq] at h710
            obtain ⟨a, rfl⟩ := one (l := ns) (by rw [hlen]; rcases h710 with rfl | rfl <;> rfl)
            obtain ⟨q0, p0, i0, l0⟩ := rd 0 a rfl
            have l00 := l0 w8 (Fr.refl _ _)
            (repeat refine gg ?_)
            refine fstore_step (j := 3) (u := .int .u64 (a : Int)) b8 ⟨rfl, rfl⟩ (by simp [encAx]) fun w10 c10 f10 z10 => ?_
            refine fin w10 ⟨k, 0, 0, a, t, 0, 0, 0⟩ c10 ?_ f10
            rw [hP, if_pos h710]; rfl
          | false =>
            simp only [Bool.or_eq_false_iff, decide_eq_false_iff_not] at h710
            (repeat refine gg ?_)
            refine fin w8 ⟨k, 0, 0, 0, t, 0, 0, 0⟩ b8 ?_ (Fr.refl _ _)
            rw [hP, if_neg (by omega)]
    · rw [hQ] at hq
      obtain ⟨c9, f9⟩ := hq
      have b29 := f9.some (by simp; omega) b28
      (repeat (first | refine BND_step (loadn_all' c9 rfl) ?_ | refine gg ?_))
      refine r12_Right P fun w10 f10 => ?_
      have c10 := f10.some (by simp) c9
      have b210 := f10.some (by simp) b29
      have f010 : Fr [] w w10 := (f08.trans f9 fun b hb => .inr (by simp at hb; omega)).trans' f10
      cases hq : rightA P with
      | false =>
        rw [hq] at hR
        (repeat (first | refine gg ?_ | (apply BND_build (encAx zeroA); exact rfl)))
        refine ret_step (R := fun r w8 => R (.tuple #[r, .int .i64 2]) w8) b210 rfl rfl (encAx_one _) (by simp [encAx]) fun w11 f11 z11 => ?_
        exact hR w11 (f010.trans f11 fun b hb => .inr (by simp at hb; omega))
      | true =>
        rw [hq] at hR
        (repeat (first | refine BND_step (loadn_all' c10 rfl) ?_ | refine gg ?_))
        refine ret_step (R := fun r w8 => R (.tuple #[r, .int .i64 0]) w8) b210 rfl rfl (encAx_one _) (by simp [encAx]) fun w11 f11 z11 => ?_
        exact hR w11 (f010.trans f11 fun b hb => .inr (by simp at hb; omega))
end
end Go.Proofs.YtpgflmjeedbimaaGreat
end
section
namespace Go.Proofs.YtpgflmjeedbimaaGreat
open Go.Den Go.Ix Go.Ev Go.Rec Go.Vint
set_option linter.unusedSimpArgs false
set_option linter.unusedVariables false
def encAn (a : An) (x : SV) : List Value := [.int .i64 a.err, .int .u64 a.id, .int .u64 a.tok, .int .i64 a.lane, .int .i64 a.cnt, .int .i64 a.many, .int .u64 a.seg, .int .u64 a.at_, .int .i64 a.size, x.v]
theorem encAn_len (a : An) (x : SV) : (encAn a x).length = 10 := rfl
theorem encAn_one (a : An) (x : SV) : ∀ u ∈ encAn a x, u.oneCell' = true := by intro u hu; simp [encAn] at hu; rcases hu with rfl | rfl | rfl | rfl | rfl | rfl | rfl | rfl | rfl | rfl <;> rfl
theorem eqWh (a b : An) : eqaggv [(0, (.int .u64)), (1, (.int .u64)), (2, (.int .i64))] .eql (.agg [Value.int .u64 a.seg, .int .u64 a.at_, .int .i64 a.size].toArray) (.agg [Value.int .u64 b.seg, .int .u64 b.at_, .int .i64 b.size].toArray) = some (.bool (decide (a.seg = b.seg ∧ a.at_ = b.at_ ∧ a.size = b.size))) := by
  refine eqagg_eq ?_
  rw [eqCells_int (xs := [_, _, _]) (ys := [_, _, _]) rfl rfl, eqCells_int (xs := [_, _, _]) (ys := [_, _, _]) rfl rfl, eqCells_int (xs := [_, _, _]) (ys := [_, _, _]) rfl rfl, eqCells_nil]
  by_cases h1 : a.seg = b.seg <;> by_cases h2 : a.at_ = b.at_ <;> by_cases h3 : a.size = b.size <;> simp [h1, h2, h3]
theorem Arr.ofU {w : World} {v : Value} {ns : List Nat} (h : Arr encU 1 w v ns) : Arr encUd 1 w v (ns.map fun n : Nat => (n : Int)) := by
  obtain ⟨a, cap, h1, h2⟩ := h
  refine ⟨a, cap, by rw [List.length_map]; exact h1, ?_⟩
  rcases h2 with rfl | ⟨b, o, c, T, fz, e, hb, hh⟩
  · exact .inl rfl
  · refine .inr ⟨b, o, c, T, fz, e, hb, fun i x hx => ?_⟩
    rw [List.getElem?_map] at hx
    obtain ⟨y, hy, rfl⟩ := Option.map_eq_some_iff.1 hx
    exact hh i y hy
theorem castI_inj {xs ys : List Nat} : (xs.map fun n : Nat => (n : Int)) = (ys.map fun n : Nat => (n : Int)) ↔ xs = ys := by
  refine ⟨fun h => ?_, fun h => by rw [h]⟩
  have := congrArg (List.map Int.toNat) h
  simpa [List.map_map, Function.comp_def] using this
set_option linter.unusedSimpArgs false
set_option linter.unusedVariables false
set_option maxRecDepth 20000
set_option maxHeartbeats 4000000
attribute [local congr] BND_cg COND_cg GEF_cg
attribute [local irreducible] capl slicea load1 loadn iaddr iaddra faddr storev newslice binv lookv mupd mdel mlenv mentry mestore slicev slicev3 slices indexs indexav textv rangev nexts clearv shiftv eqaggv convi buildv pickv lens lenl unv nilchk extractv partn JOIN
section
variable {w : World} {R : Value → World → Prop}
theorem sl_Equal {a b : Value} {xs ys : List Int} (ha : Arr encUd 1 w a xs) (hb : Arr encUd 1 w b ys) (hn : xs.length < 1000000000) (hR : ∀ w', Fr [] w w' → R (.bool (decide (xs = ys))) w') :
    CALL PR F_slices_Equal_uint64_uint64 [a, b] w R := by
  refine C_slices_Equal_uint64_uint64 ?_
  unfold M_slices_Equal_uint64_uint64
  by_cases hl : xs.length = ys.length
  · (repeat (first | refine BND_step ha.len ?_ | refine BND_step hb.len ?_ | refine gg ?_))
    refine loop_up 0 xs.length (fun i w' => Fr [] w w' ∧ xs.take i = ys.take i) ⟨Fr.refl _ _, rfl⟩ (by omega) ?_
    rintro i w1 - hi ⟨f1, e⟩ J m hJ
    by_cases hlt : i < xs.length
    · have hx := List.getElem?_eq_getElem hlt
      have hy := List.getElem?_eq_getElem (l := ys) (i := i) (by omega)
      obtain ⟨b1, o1, i1, _, _, l1⟩ := (ha.fr f1 (by simp)).spot hx rfl .i64
      obtain ⟨b2, o2, i2, _, _, l2⟩ := (hb.fr f1 (by simp)).spot hy rfl .i64
      (repeat (first | refine BND_step (l1 (w' := w1.drew) rfl (j := 0) rfl) ?_ | refine BND_step (l2 (w' := w1.drew) rfl (j := 0) rfl) ?_ | refine gg ?_))
      by_cases he : xs[i] = ys[i]
      · (repeat refine gg ?_)
        refine hJ _ hlt ⟨f1.trans' (Fr.drew _ _), ?_⟩
        rw [List.take_add_one, List.take_add_one, hx, hy, e, he]
      · (repeat refine gg ?_)
        have := hR _ (f1.trans' (Fr.drew _ _))
        rwa [decide_eq_false (fun h => he (by subst h; rfl))] at this
    · (repeat refine gg ?_)
      have := hR _ f1
      rw [List.take_of_length_le (by omega), List.take_of_length_le (by omega)] at e
      rwa [decide_eq_true e] at this
  · (repeat (first | refine BND_step ha.len ?_ | refine BND_step hb.len ?_ | refine gg ?_))
    have := hR _ (Fr.refl _ _)
    rwa [decide_eq_false (fun h => hl (by rw [h]))] at this
theorem op_Same {a b : An} {x y : SV} (hx : Arr encUd 1 w x.v a.ids) (hy : Arr encUd 1 w y.v b.ids) (hn : a.ids.length < 1000000000) (hR : ∀ w', Fr [] w w' → R (.bool (decide (a = b))) w') : CALL PR F_op_Same [.agg (encAn a x).toArray, .agg (encAn b y).toArray] w R := by
  refine C_op_Same ?_
  unfold M_op_Same
  refine NEW_intro fun w1 b1 f1 z1 => ?_
  replace b1 : blk w1 (hsz w) = some (.cells (encAn a x).toArray 32 (0, 0)) := b1
  refine NEW_intro fun w2 b2 f2 z2 => ?_
  replace b2 : blk w2 (hsz w1) = some (.cells (encAn b y).toArray 32 (0, 0)) := b2
  have b12 := f2.some (by simp) b1
  have f02 := f1.trans' f2
  have no : a ≠ b → R (.bool false) w2 := fun h => by
    have := hR w2 f02
    rwa [decide_eq_false h] at this
  by_cases h0 : a.err = b.err
  rotate_left
  · (repeat refine gg ?_)
    exact no (fun e => h0 (by rw [e]))
  by_cases h1 : a.id = b.id
  rotate_left
  · (repeat refine gg ?_)
    exact no (fun e => h1 (by rw [e]))
  by_cases h2 : a.tok = b.tok
  rotate_left
  · (repeat refine gg ?_)
    exact no (fun e => h2 (by rw [e]))
  by_cases h3 : a.lane = b.lane
  rotate_left
  · (repeat refine gg ?_)
    exact no (fun e => h3 (by rw [e]))
  by_cases h4 : a.cnt = b.cnt
  rotate_left
  · (repeat refine gg ?_)
    exact no (fun e => h4 (by rw [e]))
  by_cases h5 : a.many = b.many
  rotate_left
  · (repeat refine gg ?_)
    exact no (fun e => h5 (by rw [e]))
  by_cases h6 : a.seg = b.seg ∧ a.at_ = b.at_ ∧ a.size = b.size
  rotate_left
  · have ew := eqWh a b
    rw [decide_eq_false h6] at ew
    (repeat (first | refine BND_step (loadn_blk b12 (by simp [encAn])) ?_ | refine BND_step (loadn_blk b2 (by simp [encAn])) ?_ | refine gg ?_))
    (repeat refine gg ?_)
    exact no (fun e => h6 (by rw [e]; exact ⟨rfl, rfl, rfl⟩))
  have ew := eqWh a b
  rw [decide_eq_true h6] at ew
  (repeat (first | refine BND_step (loadn_blk b12 (by simp [encAn])) ?_ | refine BND_step (loadn_blk b2 (by simp [encAn])) ?_ | refine gg ?_))
  (repeat refine gg ?_)
  refine sl_Equal (hx.fr f02 (by simp)) (hy.fr f02 (by simp)) hn fun w3 f3 => ?_
  have := hR w3 (f02.trans' f3)
  have e9 : decide (a = b) = decide (a.ids = b.ids) := by
    refine decide_eq_decide.2 ⟨fun e => by rw [e], fun e => ?_⟩
    obtain ⟨a0, a1, a2, a3, a4, a5, a6, a7, a8, a9⟩ := a
    obtain ⟨c0, c1, c2, c3, c4, c5, c6, c7, c8, c9⟩ := b
    simp only at h0 h1 h2 h3 h4 h5 h6 e
    obtain ⟨h6, h7, h8⟩ := h6
    subst h0 h1 h2 h3 h4 h5 h6 h7 h8 e
    rfl
  rw [e9] at this
  (repeat refine gg ?_)
  exact this
theorem r12_Same {a b : An} {x y : SV} (hx : Arr encUd 1 w x.v a.ids) (hy : Arr encUd 1 w y.v b.ids) (hn : a.ids.length < 1000000000) (hR : ∀ w', Fr [] w w' → R (.bool (decide (a = b))) w') : CALL PR F_tumbrelref12_Same [.agg (encAn a x).toArray, .agg (encAn b y).toArray] w R := by
  refine C_tumbrelref12_Same ?_
  unfold M_tumbrelref12_Same
  refine NEW_intro fun w1 b1 f1 z1 => ?_
  replace b1 : blk w1 (hsz w) = some (.cells (encAn a x).toArray 57 (0, 0)) := b1
  refine NEW_intro fun w2 b2 f2 z2 => ?_
  replace b2 : blk w2 (hsz w1) = some (.cells (encAn b y).toArray 57 (0, 0)) := b2
  have b12 := f2.some (by simp) b1
  have f02 := f1.trans' f2
  have no : a ≠ b → R (.bool false) w2 := fun h => by
    have := hR w2 f02
    rwa [decide_eq_false h] at this
  by_cases h0 : a.err = b.err
  rotate_left
  · (repeat refine gg ?_)
    exact no (fun e => h0 (by rw [e]))
  by_cases h1 : a.id = b.id
  rotate_left
  · (repeat refine gg ?_)
    exact no (fun e => h1 (by rw [e]))
  by_cases h2 : a.tok = b.tok
  rotate_left
  · (repeat refine gg ?_)
    exact no (fun e => h2 (by rw [e]))
  by_cases h3 : a.lane = b.lane
  rotate_left
  · (repeat refine gg ?_)
    exact no (fun e => h3 (by rw [e]))
  by_cases h4 : a.cnt = b.cnt
  rotate_left
  · (repeat refine gg ?_)
    exact no (fun e => h4 (by rw [e]))
  by_cases h5 : a.many = b.many
  rotate_left
  · (repeat refine gg ?_)
    exact no (fun e => h5 (by rw [e]))
  by_cases h6 : a.seg = b.seg ∧ a.at_ = b.at_ ∧ a.size = b.size
  rotate_left
  · have ew := eqWh a b
    rw [decide_eq_false h6] at ew
    (repeat (first | refine BND_step (loadn_blk b12 (by simp [encAn])) ?_ | refine BND_step (loadn_blk b2 (by simp [encAn])) ?_ | refine gg ?_))
    (repeat refine gg ?_)
    exact no (fun e => h6 (by rw [e]; exact ⟨rfl, rfl, rfl⟩))
  have ew := eqWh a b
  rw [decide_eq_true h6] at ew
  (repeat (first | refine BND_step (loadn_blk b12 (by simp [encAn])) ?_ | refine BND_step (loadn_blk b2 (by simp [encAn])) ?_ | refine gg ?_))
  (repeat refine gg ?_)
  refine r2_Same (hx.fr f02 (by simp)) (hy.fr f02 (by simp)) hn fun w3 f3 => ?_
  have := hR w3 (f02.trans' f3)
  have e9 : decide (a = b) = decide (a.ids = b.ids) := by
    refine decide_eq_decide.2 ⟨fun e => by rw [e], fun e => ?_⟩
    obtain ⟨a0, a1, a2, a3, a4, a5, a6, a7, a8, a9⟩ := a
    obtain ⟨c0, c1, c2, c3, c4, c5, c6, c7, c8, c9⟩ := b
    simp only at h0 h1 h2 h3 h4 h5 h6 e
    obtain ⟨h6, h7, h8⟩ := h6
    subst h0 h1 h2 h3 h4 h5 h6 h7 h8 e
    rfl
  rw [e9] at this
  (repeat refine gg ?_)
  exact this
theorem law12_answer (a : An) (x : SV) (hR : ∀ w', Fr [] w w' → R (.agg (encAn a x).toArray) w') : CALL PR F_tumbrellaw12_answer [.agg (encAn a x).toArray] w R := by
  refine C_tumbrellaw12_answer ?_
  unfold M_tumbrellaw12_answer
  refine NEW_intro fun w1 b1 f1 z1 => ?_
  replace b1 : blk w1 (hsz w) = some (.cells (encAn a x).toArray 32 (0, 0)) := b1
  refine NEW_intro fun w2 b2 f2 z2 => ?_
  replace b2 : blk w2 (hsz w1) = some (.cells (encAn an0 nilV).toArray 57 (0, 0)) := b2
  have b12 := f2.some (by simp) b1
  (repeat (first | refine BND_step (loadn_blk b12 (by simp [encAn])) ?_ | refine gg ?_ | (apply BND_build (encAn a x); exact rfl)))
  refine ret_step b2 rfl rfl (encAn_one _ _) (by simp [encAn]) fun w3 f3 z3 => ?_
  exact hR w3 ((f1.trans' f2).trans f3 fun b hb => .inr (by simp at hb; omega))
theorem law12_own (o : Ax) (hR : ∀ w', Fr [] w w' → R (.agg (encAx o).toArray) w') : CALL PR F_tumbrellaw12_own [.agg (encAx o).toArray] w R := by
  refine C_tumbrellaw12_own ?_
  unfold M_tumbrellaw12_own
  refine NEW_intro fun w1 b1 f1 z1 => ?_
  replace b1 : blk w1 (hsz w) = some (.cells (encAx o).toArray 26 (0, 0)) := b1
  refine NEW_intro fun w2 b2 f2 z2 => ?_
  replace b2 : blk w2 (hsz w1) = some (.cells (encAx zeroA).toArray 37 (0, 0)) := b2
  have b12 := f2.some (by simp) b1
  (repeat (first | refine BND_step (loadn_blk b12 (by simp [encAx])) ?_ | refine gg ?_ | (apply BND_build (encAx o); exact rfl)))
  refine ret_step b2 rfl rfl (encAx_one _) (by simp [encAx]) fun w3 f3 z3 => ?_
  exact hR w3 ((f1.trans' f2).trans f3 fun b hb => .inr (by simp at hb; omega))
end
end Go.Proofs.YtpgflmjeedbimaaGreat
end
section
namespace Go.Proofs.YtpgflmjeedbimaaGreat
open Go.Den Go.Ev Go.Rec Go.Vint
open Go.ChangeShapes Go.WideShapes Go.ChangeAt Go.RowKit
set_option linter.unusedVariables false
section
variable {H : Type} {enc : TypeId × Value → H} {w : World}
set_option maxRecDepth 100000 in
theorem where_dec (fuel : Nat) (cs : List Value) (y : DataW H × List MemPlace) (h : DataW.trod enc Tryz.prog w 0 (fun _ => true) true fuel 24 cs = some y) : ∃ (a0 : Int) (a1 : Int) (a2 : Int), cs = [.int .u64 a0, .int .u64 a1, .int .i64 a2] ∧ (Lit.int .u64 a0).wf = true ∧ (Lit.int .u64 a1).wf = true ∧ (Lit.int .i64 a2).wf = true := by
  obtain ⟨y0, y1, y2, n, hy, hl, h0, h1, h2⟩ := trodS3 Tryz.underlying24 h
  have hc : Tryz.prog.cellsOf 24 = 3 := by kernel_rfl
  rw [hc] at hl
  have c0 : Tryz.prog.cellsOf 22 = 1 := by kernel_rfl
  have c1 : Tryz.prog.cellsOf 3 = 1 := by kernel_rfl
  match cs, hl with
  | [u0, u1, u2], _ =>
    simp only [c0, c1, List.drop_zero, List.take_succ_cons, List.take_zero, List.drop_succ_cons] at h0 h1 h2
    obtain ⟨a0, e0, _, q0⟩ := DataW.trod_int Tryz.underlying22 h0
    obtain ⟨a1, e1, _, q1⟩ := DataW.trod_int Tryz.underlying22 h1
    obtain ⟨a2, e2, _, q2⟩ := DataW.trod_int Tryz.underlying3 h2
    simp only [List.cons.injEq, and_true] at e0 e1 e2
    subst e0
    subst e1
    subst e2
    exact ⟨a0, a1, a2, rfl, q0, q1, q2⟩
set_option maxRecDepth 100000 in
theorem op0_dec (fuel : Nat) (cs : List Value) (y : DataW H × List MemPlace) (h : DataW.trod enc Tryz.prog w 0 (fun _ => true) true fuel 26 cs = some y) : ∃ (a0 : Int) (a1 : Int) (a2 : Int) (a3 : Int) (a4 : ByteArray) (a5 : Int) (a6 : Int) (a7 : Int), cs = [.int .i64 a0, .int .i64 a1, .int .u64 a2, .int .u64 a3, .string a4, .int .u64 a5, .int .u64 a6, .int .i64 a7] ∧ (Lit.int .i64 a0).wf = true ∧ (Lit.int .i64 a1).wf = true ∧ (Lit.int .u64 a2).wf = true ∧ (Lit.int .u64 a3).wf = true ∧ a4.size ≤ 9223372036854775807 ∧ (Lit.int .u64 a5).wf = true ∧ (Lit.int .u64 a6).wf = true ∧ (Lit.int .i64 a7).wf = true := by
  obtain ⟨y0, y1, y2, y3, y4, y5, n, hy, hl, h0, h1, h2, h3, h4, h5⟩ := trodS6 Tryz.underlying26 h
  have hc : Tryz.prog.cellsOf 26 = 8 := by kernel_rfl
  rw [hc] at hl
  have c0 : Tryz.prog.cellsOf 3 = 1 := by kernel_rfl
  have c1 : Tryz.prog.cellsOf 22 = 1 := by kernel_rfl
  have c2 : Tryz.prog.cellsOf 9 = 1 := by kernel_rfl
  have c3 : Tryz.prog.cellsOf 24 = 3 := by kernel_rfl
  match cs, hl with
  | [u0, u1, u2, u3, u4, u5, u6, u7], _ =>
    simp only [c0, c1, c2, c3, List.drop_zero, List.take_succ_cons, List.take_zero, List.drop_succ_cons] at h0 h1 h2 h3 h4 h5
    obtain ⟨a0, e0, _, q0⟩ := DataW.trod_int Tryz.underlying3 h0
    obtain ⟨a1, e1, _, q1⟩ := DataW.trod_int Tryz.underlying3 h1
    obtain ⟨a2, e2, _, q2⟩ := DataW.trod_int Tryz.underlying22 h2
    obtain ⟨a3, e3, _, q3⟩ := DataW.trod_int Tryz.underlying22 h3
    obtain ⟨a4, e4, _, q4⟩ := DataW.trod_string Tryz.underlying9 h4
    obtain ⟨a5, a6, a7, e5, q5_0, q5_1, q5_2⟩ := where_dec _ _ _ h5
    simp only [List.cons.injEq, and_true] at e0 e1 e2 e3 e4 e5
    subst e0
    subst e1
    subst e2
    subst e3
    subst e4
    obtain ⟨rfl, rfl, rfl⟩ := e5
    exact ⟨a0, a1, a2, a3, a4, a5, a6, a7, rfl, q0, q1, q2, q3, q4, q5_0, q5_1, q5_2⟩
theorem u64_nat {x : Int} (h : (Lit.int .u64 x).wf = true) : ∃ n : Nat, x = (n : Int) ∧ n < 18446744073709551616 := by
  have := h
  simp [Lit.wf, IntKind.min, IntKind.max, IntKind.signed, IntKind.bits] at this
  exact ⟨x.toNat, by omega, by omega⟩
def U64n (x : Nat) : Prop := x < 18446744073709551616
def Any1 (_ : Int) : Prop := True
theorem u64n_dec (fuel : Nat) (cs : List Value) (y : DataW H × List MemPlace) (h : DataW.trod enc Tryz.prog w 0 (fun _ => true) true fuel 22 cs = some y) : ∃ x : Nat, cs = encU x ∧ U64n x := by
  obtain ⟨a, e, _, q⟩ := DataW.trod_int Tryz.underlying22 h
  obtain ⟨n, rfl, l⟩ := u64_nat q
  exact ⟨n, e, l⟩
theorem u64i_dec (fuel : Nat) (cs : List Value) (y : DataW H × List MemPlace) (h : DataW.trod enc Tryz.prog w 0 (fun _ => true) true fuel 22 cs = some y) : ∃ x : Int, cs = encUd x ∧ Any1 x := by
  obtain ⟨a, e, _, q⟩ := DataW.trod_int Tryz.underlying22 h
  exact ⟨a, e, trivial⟩
theorem op_dec (fuel : Nat) (cs : List Value) (y : DataW H × List MemPlace) (h : DataW.trod enc Tryz.prog w 0 (fun _ => true) true fuel 26 cs = some y) : ∃ x : Ax, cs = encAx x ∧ OkA x := by
  obtain ⟨a0, a1, a2, a3, a4, a5, a6, a7, e, _, _, q2, q3, _, q5, q6, _⟩ := op0_dec _ _ _ h
  obtain ⟨n2, rfl, l2⟩ := u64_nat q2
  obtain ⟨n3, rfl, l3⟩ := u64_nat q3
  obtain ⟨n5, rfl, l5⟩ := u64_nat q5
  obtain ⟨n6, rfl, l6⟩ := u64_nat q6
  exact ⟨⟨a0, a1, n2, n3, a4, n5, n6, a7⟩, e, l2, l3, l5, l6⟩
set_option maxRecDepth 100000 in
theorem rec0_dec (fuel : Nat) (cs : List Value) (y : DataW H × List MemPlace) (h : DataW.trod enc Tryz.prog w 0 (fun _ => true) true fuel 29 cs = some y) : ∃ (a0 : Int) (a1 : Value) (a2 : ByteArray), cs = [.int .i64 a0, a1, .string a2] ∧ (Lit.int .i64 a0).wf = true ∧ (Capd a1 ∧ ∃ xs, Arr encU 1 w a1 xs ∧ (∀ x ∈ xs, U64n x) ∧ ((y.1.weights Tryz.prog 29).all (· ≤ reachBytes) = true → xs.length * Tryz.prog.bytesOf 22 ≤ reachBytes)) ∧ a2.size ≤ 9223372036854775807 := by
  obtain ⟨y0, y1, y2, n, hy, hl, h0, h1, h2⟩ := trodS3 Tryz.underlying29 h
  have hc : Tryz.prog.cellsOf 29 = 3 := by kernel_rfl
  rw [hc] at hl
  have c0 : Tryz.prog.cellsOf 3 = 1 := by kernel_rfl
  have c1 : Tryz.prog.cellsOf 27 = 1 := by kernel_rfl
  have c2 : Tryz.prog.cellsOf 9 = 1 := by kernel_rfl
  match cs, hl with
  | [u0, u1, u2], _ =>
    simp only [c0, c1, c2, List.drop_zero, List.take_succ_cons, List.take_zero, List.drop_succ_cons] at h0 h1 h2
    have hWs : (y.1.weights Tryz.prog 29).all (· ≤ reachBytes) = true → (y0.1.weights Tryz.prog 3).all (· ≤ reachBytes) = true ∧ (y1.1.weights Tryz.prog 27).all (· ≤ reachBytes) = true ∧ (y2.1.weights Tryz.prog 9).all (· ≤ reachBytes) = true := by
      intro hW
      rw [hy] at hW
      simpa only [DataW.weights, Tryz.underlying29, List.map_cons, List.map_nil, DataW.weightsEach, List.all_append, List.all_nil, Bool.and_eq_true, and_true] using hW
    obtain ⟨a0, e0, _, q0⟩ := DataW.trod_int Tryz.underlying3 h0
    obtain ⟨a1, e1, q1⟩ := arr_of_cells (P := Tryz.prog) (encS := encU) (OK := U64n) Tryz.underlying27 (show Tryz.prog.cellsOf 22 = 1 by kernel_rfl) (by omega) encU_len (u64n_dec) h1
    obtain ⟨a2, e2, _, q2⟩ := DataW.trod_string Tryz.underlying9 h2
    simp only [List.cons.injEq, and_true] at e0 e1 e2
    subst e0
    subst e1
    subst e2
    exact ⟨a0, u1, a2, rfl, q0, ⟨q1.1, q1.2.elim fun xs p => ⟨xs, p.1, p.2.1, fun hW => p.2.2 (hWs hW).2.1⟩⟩, q2⟩
theorem recw_dec (fuel : Nat) (cs : List Value) (y : DataW H × List MemPlace) (h : DataW.trod enc Tryz.prog w 0 (fun _ => true) true fuel 29 cs = some y) : ∃ (k : Int) (sv : SV) (t : ByteArray) (ns : List Nat), cs = encRc (k, sv, t) ∧ ArrC encU 1 w sv.v ns := by
  obtain ⟨a0, a1, a2, e, _, ⟨hc, xs, hx, _, _⟩, _⟩ := rec0_dec _ _ _ h
  obtain ⟨sv, rfl⟩ := hx.sv
  exact ⟨a0, sv, a2, xs, e, ⟨hx, hc⟩⟩
set_option maxRecDepth 100000 in
theorem ans0_dec (fuel : Nat) (cs : List Value) (y : DataW H × List MemPlace) (h : DataW.trod enc Tryz.prog w 0 (fun _ => true) true fuel 32 cs = some y) : ∃ (a0 : Int) (a1 : Int) (a2 : Int) (a3 : Int) (a4 : Int) (a5 : Int) (a6 : Int) (a7 : Int) (a8 : Int) (a9 : Value), cs = [.int .i64 a0, .int .u64 a1, .int .u64 a2, .int .i64 a3, .int .i64 a4, .int .i64 a5, .int .u64 a6, .int .u64 a7, .int .i64 a8, a9] ∧ (Lit.int .i64 a0).wf = true ∧ (Lit.int .u64 a1).wf = true ∧ (Lit.int .u64 a2).wf = true ∧ (Lit.int .i64 a3).wf = true ∧ (Lit.int .i64 a4).wf = true ∧ (Lit.int .i64 a5).wf = true ∧ (Lit.int .u64 a6).wf = true ∧ (Lit.int .u64 a7).wf = true ∧ (Lit.int .i64 a8).wf = true ∧ (Capd a9 ∧ ∃ xs, Arr encUd 1 w a9 xs ∧ (∀ x ∈ xs, Any1 x) ∧ ((y.1.weights Tryz.prog 32).all (· ≤ reachBytes) = true → xs.length * Tryz.prog.bytesOf 22 ≤ reachBytes)) := by
  obtain ⟨y0, y1, y2, y3, y4, y5, y6, y7, n, hy, hl, h0, h1, h2, h3, h4, h5, h6, h7⟩ := trodS8 Tryz.underlying32 h
  have hc : Tryz.prog.cellsOf 32 = 10 := by kernel_rfl
  rw [hc] at hl
  have c0 : Tryz.prog.cellsOf 30 = 1 := by kernel_rfl
  have c1 : Tryz.prog.cellsOf 22 = 1 := by kernel_rfl
  have c2 : Tryz.prog.cellsOf 3 = 1 := by kernel_rfl
  have c3 : Tryz.prog.cellsOf 24 = 3 := by kernel_rfl
  have c4 : Tryz.prog.cellsOf 27 = 1 := by kernel_rfl
  match cs, hl with
  | [u0, u1, u2, u3, u4, u5, u6, u7, u8, u9], _ =>
    simp only [c0, c1, c2, c3, c4, List.drop_zero, List.take_succ_cons, List.take_zero, List.drop_succ_cons] at h0 h1 h2 h3 h4 h5 h6 h7
    have hWs : (y.1.weights Tryz.prog 32).all (· ≤ reachBytes) = true → (y0.1.weights Tryz.prog 30).all (· ≤ reachBytes) = true ∧ (y1.1.weights Tryz.prog 22).all (· ≤ reachBytes) = true ∧ (y2.1.weights Tryz.prog 22).all (· ≤ reachBytes) = true ∧ (y3.1.weights Tryz.prog 3).all (· ≤ reachBytes) = true ∧ (y4.1.weights Tryz.prog 3).all (· ≤ reachBytes) = true ∧ (y5.1.weights Tryz.prog 3).all (· ≤ reachBytes) = true ∧ (y6.1.weights Tryz.prog 24).all (· ≤ reachBytes) = true ∧ (y7.1.weights Tryz.prog 27).all (· ≤ reachBytes) = true := by
      intro hW
      rw [hy] at hW
      simpa only [DataW.weights, Tryz.underlying32, List.map_cons, List.map_nil, DataW.weightsEach, List.all_append, List.all_nil, Bool.and_eq_true, and_true] using hW
    obtain ⟨a0, e0, _, q0⟩ := DataW.trod_int Tryz.underlying30 h0
    obtain ⟨a1, e1, _, q1⟩ := DataW.trod_int Tryz.underlying22 h1
    obtain ⟨a2, e2, _, q2⟩ := DataW.trod_int Tryz.underlying22 h2
    obtain ⟨a3, e3, _, q3⟩ := DataW.trod_int Tryz.underlying3 h3
    obtain ⟨a4, e4, _, q4⟩ := DataW.trod_int Tryz.underlying3 h4
    obtain ⟨a5, e5, _, q5⟩ := DataW.trod_int Tryz.underlying3 h5
    obtain ⟨a6, a7, a8, e6, q6_0, q6_1, q6_2⟩ := where_dec _ _ _ h6
    obtain ⟨a9, e7, q7⟩ := arr_of_cells (P := Tryz.prog) (encS := encUd) (OK := Any1) Tryz.underlying27 (show Tryz.prog.cellsOf 22 = 1 by kernel_rfl) (by omega) encUd_len (u64i_dec) h7
    simp only [List.cons.injEq, and_true] at e0 e1 e2 e3 e4 e5 e6 e7
    subst e0
    subst e1
    subst e2
    subst e3
    subst e4
    subst e5
    obtain ⟨rfl, rfl, rfl⟩ := e6
    subst e7
    exact ⟨a0, a1, a2, a3, a4, a5, a6, a7, a8, u9, rfl, q0, q1, q2, q3, q4, q5, q6_0, q6_1, q6_2, ⟨q7.1, q7.2.elim fun xs p => ⟨xs, p.1, p.2.1, fun hW => p.2.2 (hWs hW).2.2.2.2.2.2.2⟩⟩⟩
theorem ans_dec (fuel : Nat) (cs : List Value) (y : DataW H × List MemPlace) (h : DataW.trod enc Tryz.prog w 0 (fun _ => true) true fuel 32 cs = some y) : ∃ (a : An) (x : SV), cs = encAn a x ∧ Arr encUd 1 w x.v a.ids := by
  obtain ⟨a0, a1, a2, a3, a4, a5, a6, a7, a8, a9, e, _, _, _, _, _, _, _, _, _, ⟨_, xs, hx, _, _⟩⟩ := ans0_dec _ _ _ h
  obtain ⟨sv, rfl⟩ := hx.sv
  exact ⟨⟨a0, a1, a2, a3, a4, a5, a6, a7, a8, xs⟩, sv, e, hx⟩
end
end Go.Proofs.YtpgflmjeedbimaaGreat
end
section
namespace Go.Proofs.YtpgflmjeedbimaaGreat
open Go.Den Go.Ix Go.Ev
set_option linter.unusedSimpArgs false
set_option linter.unusedVariables false
section
variable {w0 w w' : World} {F0 : List Nat} {P : HP} {ps : List HP}
theorem At.into (h : At w0 F0 P w) : At w0 F0 (stars [P]) w := by
  obtain ⟨F, h1, h2, h3⟩ := h
  exact ⟨F, ⟨F, [], h1, ⟨trivial, rfl⟩, by simp, by simp⟩, h2, h3⟩
theorem At.out (h : At w0 F0 (stars [P]) w) : At w0 F0 P w := by
  obtain ⟨F, ⟨A, B, h1, ⟨_, rfl⟩, rfl, _⟩, h2, h3⟩ := h
  exact ⟨A, h1, fun b hb => h2 b (by simp [hb]), h3⟩
theorem At.sub (h : At w0 F0 (stars ps) w) (i : Nat) (hi : ps[i]? = some P) : ∃ A, At w A P w ∧ ∀ w' P', At w A P' w' → At w0 F0 (stars (ps.set i P')) w' := by
  obtain ⟨A, hA, upd⟩ := h.upd i hi
  refine ⟨A, At.start hA, fun w' P' ⟨F', p1, p2, p3⟩ => upd w' F' P' p1 p3 p2⟩
theorem At.box {T : Nat} {vs : List Value} {K : Value → World → Prop} (h : At w0 F0 (stars ps) w) (hK : ∀ w', At w0 F0 (stars (pts (hsz w) vs :: ps)) w' → Fr [] w w' → hsz w' = hsz w + 1 → K (.pointer (some ⟨hsz w, 0, none⟩)) w') :
    NEW (newv T w (.agg vs.toArray)) K := by
  refine NEW_intro fun w1 b1 f1 z1 => hK w1 ?_ f1 z1
  exact h.add f1 (P := pts (hsz w) vs) (A := [hsz w]) ⟨⟨T, b1⟩, rfl⟩ (by simp)
theorem At.ret {i n b : Nat} {zs vs : List Value} {K : Value → World → Prop} (h : At w0 F0 (stars ps) w) (hi : ps[i]? = some (pts b zs)) (hz : zs.length = n) (hv : vs.length = n) (h1 : ∀ u ∈ vs, u.oneCell' = true) (hn : vs ≠ [])
    (hK : ∀ w', At w0 F0 (stars (ps.set i (pts b vs))) w' → Fr [b] w w' → K (.agg vs.toArray) w') : BND (storev n w (.pointer (some ⟨b, 0, none⟩)) (.agg vs.toArray)) fun w3 => BND (loadn n w3 (.pointer (some ⟨b, 0, none⟩))) fun v => K v w3 := by
  refine h.put hi hz hv h1 hn fun w3 h3 f3 => ?_
  have hl : i < ps.length := (List.getElem?_eq_some_iff.1 hi).1
  obtain ⟨T, c⟩ := h3.cell (i := i) (by rw [List.getElem?_set_self hl])
  exact BND_step (loadn_all c hv) (hK w3 h3 f3)
end
set_option linter.unusedSimpArgs false
set_option linter.unusedVariables false
set_option maxRecDepth 20000
set_option maxHeartbeats 4000000
attribute [local congr] BND_cg COND_cg GEF_cg
attribute [local irreducible] capl slicea load1 loadn iaddr iaddra faddr storev newslice binv lookv mupd mdel mlenv mentry mestore slicev slicev3 slices indexs indexav textv rangev nexts clearv shiftv eqaggv convi buildv pickv lens lenl unv nilchk extractv partn JOIN
section
variable {w0 w : World} {F0 : List Nat} {xb : Nat} {s : Px} {B : Nat} {R : Value → World → Prop}
theorem op_told (y : It) (e : Int) (hR : ∀ w', Fr [] w w' → R (.agg (encAn (toldA y e) nilV).toArray) w') : CALL PR F_op_told [.agg (encIt y).toArray, .int .i64 e] w R := by
  refine C_op_told ?_
  unfold M_op_told
  refine NEW_intro fun w1 b1 f1 z1 => ?_
  replace b1 : blk w1 (hsz w) = some (.cells (encIt y).toArray 75 (0, 0)) := b1
  refine NEW_intro fun w2 b2 f2 z2 => ?_
  replace b2 : blk w2 (hsz w1) = some (.cells (encAn an0 nilV).toArray 32 (0, 0)) := b2
  have b12 := f2.some (by simp) b1
  have f02 := f1.trans' f2
  unfold toldA at hR
  by_cases he : e = 0
  · rw [if_neg (by simpa using he)] at hR
    (repeat (first | refine BND_step (loadn_blk b12 (by simp [encIt])) ?_ | refine gg ?_ | (apply BND_build (encAn ⟨0, y.id, 0, y.lane, 0, 0, y.seg, y.at_, y.size, []⟩ nilV); exact rfl)))
    refine box_step (n := 10) (zs := encAn an0 nilV) (vs := encAn ⟨0, y.id, 0, y.lane, 0, 0, y.seg, y.at_, y.size, []⟩ nilV) rfl rfl (encAn_one _ _) (by simp [encAn]) fun w5 b5 f5 z5 => ?_
    have b15 := f5.some (by simp) b12
    have b25 := f5.some (by simp) b2
    have f05 := f02.trans' f5
    have fin : ∀ (a : An) w6, blk w6 (hsz w2) = some (.cells (encAn a nilV).toArray 32 (0, 0)) → Fr [hsz w2] w5 w6 → a = (⟨0, y.id, if y.lf.st = 3 then y.lf.tok else 0, y.lane, if y.lf.st = 3 then y.lf.cnt else 0, 0, y.seg, y.at_, y.size, []⟩ : An) →
        BND (loadn 10 w6 (.pointer (some ⟨hsz w2, 0, none⟩))) fun t => BND (storev 10 w6 (.pointer (some ⟨hsz w1, 0, none⟩)) t) fun w7 => BND (loadn 10 w7 (.pointer (some ⟨hsz w1, 0, none⟩))) fun r => R r w7 := by
      intro a w6 b6 f6 ea
      subst ea
      refine BND_step (loadn_all b6 rfl) ?_
      refine ret_step (f6.some (by simp; omega) b25) rfl rfl (encAn_one _ _) (by simp [encAn]) fun w7 f7 z7 => ?_
      exact hR w7 ((f05.trans f6 fun b hb => .inr (by simp at hb; omega)).trans f7 fun b hb => .inr (by simp at hb; omega))
    (repeat refine gg ?_)
    refine join_w (fun w' => ∃ a : An, blk w' (hsz w2) = some (.cells (encAn a nilV).toArray 32 (0, 0)) ∧ Fr [hsz w2] w5 w' ∧ a = (⟨0, y.id, if y.lf.st = 3 then y.lf.tok else 0, y.lane, if y.lf.st = 3 then y.lf.cnt else 0, 0, y.seg, y.at_, y.size, []⟩ : An)) ?_ ?_
    · intro K hK
      by_cases h3 : y.lf.st = 3
      · (repeat refine gg ?_)
        refine ⟨fun _ w' => blk w' (hsz w) = some (.cells (encIt y).toArray 75 (0, 0)), b15, ?_⟩
        replace b15 : blk w5.drew (hsz w) = some (.cells (encIt y).toArray 75 (0, 0)) := b15
        replace b5 : blk w5.drew (hsz w2) = some (.cells (encAn ⟨0, y.id, 0, y.lane, 0, 0, y.seg, y.at_, y.size, []⟩ nilV).toArray 32 (0, 0)) := b5
        (repeat refine gg ?_)
        refine fstore_step (j := 2) (u := .int .u64 (y.lf.tok : Int)) b5 ⟨rfl, rfl⟩ (by simp [encAn]) fun w6 b6 f6 z6 => ?_
        have b16 := f6.some (by simp; omega) b15
        refine ⟨b16, ?_⟩
        (repeat refine gg ?_)
        refine fstore_step (j := 4) (u := .int .i64 y.lf.cnt) b6 ⟨rfl, rfl⟩ (by simp [encAn]) fun w7 b7 f7 z7 => ?_
        refine hK w7 ⟨⟨0, y.id, y.lf.tok, y.lane, y.lf.cnt, 0, y.seg, y.at_, y.size, []⟩, b7, ?_, by rw [if_pos h3, if_pos h3]⟩
        exact ((⟨Nat.le_refl _, fun _ _ _ => rfl, rfl, rfl, rfl⟩ : Fr [hsz w2] w5 w5.drew).trans f6 fun b hb => .inl hb).trans f7 fun b hb => .inl hb
      · (repeat refine gg ?_)
        exact hK w5 ⟨_, b5, Fr.nil (Fr.refl _ _), by rw [if_neg h3, if_neg h3]⟩
    · rintro w6 ⟨a, b6, f6, ea⟩
      exact fin a w6 b6 f6 ea
  · rw [if_pos he] at hR
    (repeat (first | refine gg ?_ | (apply BND_build (encAn (anE e) nilV); exact rfl)))
    refine ret_step b2 rfl rfl (encAn_one _ _) (by simp [encAn]) fun w7 f7 z7 => ?_
    exact hR w7 (f02.trans f7 fun b hb => .inr (by simp at hb; omega))
theorem op_Do (h : At w0 F0 (indexHP xb s) w) (hI : QInv s s.now B) (hB : B < 7000000000000000000) (o : Ax) (hk : OkA o)
    (hR : ∀ w' sv G, At w0 F0 (indexHP xb (doP s o).1) w' → Slc encUd 1 w' sv.v (doP s o).2.ids G → (∀ b ∈ G, hsz w ≤ b) → R (.agg (encAn (doP s o).2 sv).toArray) w') : CALL PR F_op_Do [pp xb, .agg (encAx o).toArray] w R := by
  refine C_op_Do ?_
  unfold M_op_Do
  refine At.box (At.into h) fun w1 h1 f1 z1 => At.box (vs := encAn an0 nilV) h1 fun w2 h2 f2 z2 => ?_
  obtain ⟨To, co⟩ := h2.cell (i := 1) rfl
  (repeat (first | refine BND_step (loadn_all co (encAx_len o)) ?_ | refine gg ?_))
  refine op_Right o fun w3 f3 => ?_
  have h3 := h2.fr0 f3
  have g13 := (f1.trans' (f2.trans' f3)).grow
  have g23 := (f2.trans' f3).grow
  cases hr : rightA o with
  | false =>
    (repeat (first | refine gg ?_ | (apply BND_build (encAn (anE 1) nilV); exact rfl)))
    have e : doP s o = (s, anE 1) := by unfold doP; rw [if_pos hr]
    rw [e] at hR
    refine At.ret h3 (i := 0) rfl rfl rfl (encAn_one _ _) (by simp [encAn]) fun w4 h4 f4 => ?_
    exact hR w4 nilV [] (At.out h4.tail.tail) (Slc.nil _ _ _) (by simp)
  | true =>
    have hr' : ¬ rightA o = false := by rw [hr]; simp
    (repeat refine gg ?_)
    refine At.box (vs := encAn an0 nilV) h3 fun w5 h5 f5 z5 => ?_
    obtain ⟨T5, c5⟩ := h5.cell (i := 2) rfl
    obtain ⟨A, hx, upd⟩ := At.sub h5 3 (P := indexHP xb s) rfl
    have g5 := f5.grow
    have hx : At w5 A (indexHP xb s) w5 := hx
    have upd : ∀ {w' s'}, At w5 A (indexHP xb s') w' → At w0 F0 (stars [pts (hsz w3) (encAn an0 nilV), pts (hsz w1) (encAn an0 nilV), pts (hsz w) (encAx o), indexHP xb s']) w' := fun h => upd _ _ h
    (repeat refine gg ?_)
    refine join_w (fun w' => ∃ sv G, At w0 F0 (stars [pts (hsz w3) (encAn (doP s o).2 sv), pts (hsz w1) (encAn an0 nilV), pts (hsz w) (encAx o), indexHP xb (doP s o).1]) w' ∧ Slc encUd 1 w' sv.v (doP s o).2.ids G ∧ ∀ b ∈ G, hsz w5 ≤ b) ?_ ?_
    rotate_left
    · rintro w6 ⟨sv, G, h6, s6, n6⟩
      obtain ⟨T6, c6⟩ := h6.cell (i := 0) rfl
      (repeat (first | refine BND_step (loadn_all c6 (encAn_len _ _)) ?_ | refine gg ?_))
      refine At.ret h6 (i := 1) rfl rfl rfl (encAn_one _ _) (by simp [encAn]) fun w7 h7 f7 => ?_
      exact hR w7 sv G (At.out h7.tail.tail.tail) (s6.fr f7 fun b hb hb' => by have := n6 b hb; simp at hb'; omega) fun b hb => by have := n6 b hb; omega
    have done : ∀ {s' : Px} {a : An} {w' : World}, doP s o = (s', a) → a.ids = [] → At w0 F0 (stars [pts (hsz w3) (encAn a nilV), pts (hsz w1) (encAn an0 nilV), pts (hsz w) (encAx o), indexHP xb s']) w' →
        ∃ sv G, At w0 F0 (stars [pts (hsz w3) (encAn (doP s o).2 sv), pts (hsz w1) (encAn an0 nilV), pts (hsz w) (encAx o), indexHP xb (doP s o).1]) w' ∧ Slc encUd 1 w' sv.v (doP s o).2.ids G ∧ ∀ b ∈ G, hsz w5 ≤ b := by
      intro s' a w' e h0 h'
      rw [e]
      exact ⟨nilV, [], h', by rw [h0]; exact Slc.nil _ _ _, by simp⟩
    intro K hK
    by_cases k1 : o.d = 1
    · (repeat refine gg ?_)
      refine ix_Reset hx hI hB fun w6 h6 => ?_
      exact hK w6 (done (by unfold doP; rw [if_neg hr', if_pos k1]) rfl (upd h6))
    (repeat refine gg ?_)
    refine join_w _ ?_ hK
    clear hK K
    intro K hK
    by_cases k2 : o.d = 2
    · (repeat (first | refine BND_step (loadn_blk c5 (by simp [encAx])) ?_ | refine gg ?_))
      refine ix_Put (seg := o.seg) (at_ := o.at_) hx hI (by omega) o.lane o.size hk.n fun w6 h6 => ?_
      (repeat refine gg ?_)
      refine (upd h6).store (i := 0) (j := 1) rfl ⟨rfl, rfl⟩ (by simp [encAn]) fun w7 h7 _ => ?_
      (repeat refine gg ?_)
      refine h7.store (i := 0) (j := 0) rfl ⟨rfl, rfl⟩ (by simp [encAn]) fun w8 h8 _ => ?_
      exact hK w8 (done (a := ⟨(putP s o.lane o.n o.seg o.at_ o.size).2.2, (putP s o.lane o.n o.seg o.at_ o.size).2.1, 0, 0, 0, 0, 0, 0, 0, []⟩) (by unfold doP; rw [if_neg hr', if_neg k1, if_pos k2]) rfl h8)
    (repeat refine gg ?_)
    refine join_w _ ?_ hK
    clear hK K
    intro K hK
    by_cases k3 : o.d = 3
    · (repeat refine gg ?_)
      refine ix_Lease hx hI (by omega) o.lane hk.n fun w6 h6 => ?_
      (repeat refine gg ?_)
      refine op_told _ _ fun w7 f7 => ?_
      refine ((upd h6).fr0 f7).put (i := 0) (n := 10) rfl rfl rfl (encAn_one _ _) (by simp [encAn]) fun w8 h8 _ => ?_
      exact hK w8 (done (by unfold doP; rw [if_neg hr', if_neg k1, if_neg k2, if_pos k3]) (by unfold toldA; split <;> rfl) h8)
    (repeat refine gg ?_)
    refine join_w _ ?_ hK
    clear hK K
    intro K hK
    by_cases k4 : o.d = 4
    · (repeat refine gg ?_)
      refine ix_Ack hx hI (by omega) o.id fun w6 h6 => ?_
      (repeat refine gg ?_)
      refine op_told _ _ fun w7 f7 => ?_
      refine ((upd h6).fr0 f7).put (i := 0) (n := 10) rfl rfl rfl (encAn_one _ _) (by simp [encAn]) fun w8 h8 _ => ?_
      exact hK w8 (done (by unfold doP; rw [if_neg hr', if_neg k1, if_neg k2, if_neg k3, if_pos k4]) (by unfold toldA; split <;> rfl) h8)
    (repeat refine gg ?_)
    refine join_w _ ?_ hK
    clear hK K
    intro K hK
    by_cases k5 : o.d = 5
    · (repeat refine gg ?_)
      refine ix_Nack hx hI (by omega) o.id hk.n fun w6 h6 => ?_
      (repeat refine gg ?_)
      refine op_told _ _ fun w7 f7 => ?_
      refine ((upd h6).fr0 f7).put (i := 0) (n := 10) rfl rfl rfl (encAn_one _ _) (by simp [encAn]) fun w8 h8 _ => ?_
      exact hK w8 (done (by unfold doP; rw [if_neg hr', if_neg k1, if_neg k2, if_neg k3, if_neg k4, if_pos k5]) (by unfold toldA; split <;> rfl) h8)
    (repeat refine gg ?_)
    refine join_w _ ?_ hK
    clear hK K
    intro K hK
    by_cases k6 : o.d = 6
    · (repeat refine gg ?_)
      refine ix_Extend hx hI (by omega) o.id hk.n fun w6 h6 => ?_
      (repeat refine gg ?_)
      refine op_told _ _ fun w7 f7 => ?_
      refine ((upd h6).fr0 f7).put (i := 0) (n := 10) rfl rfl rfl (encAn_one _ _) (by simp [encAn]) fun w8 h8 _ => ?_
      (repeat refine gg ?_)
      refine h8.store (i := 0) (j := 2) rfl ⟨rfl, rfl⟩ (by simp [encAn]) fun w9 h9 _ => ?_
      (repeat refine gg ?_)
      refine h9.store (i := 0) (j := 4) rfl ⟨rfl, rfl⟩ (by simp [encAn]) fun w10 h10 _ => ?_
      refine hK w10 (done (a := told0 (extendP s o.id o.n).2.1 (extendP s o.id o.n).2.2) (by unfold doP; rw [if_neg hr', if_neg k1, if_neg k2, if_neg k3, if_neg k4, if_neg k5, if_pos k6]) (by unfold told0; split <;> rfl) ?_)
      have e : ((encAn (toldA (extendP s o.id o.n).2.1 (extendP s o.id o.n).2.2) nilV).set 2 (.int .u64 0)).set 4 (.int .i64 0) = encAn (told0 (extendP s o.id o.n).2.1 (extendP s o.id o.n).2.2) nilV := by
        unfold toldA told0; split <;> rfl
      rw [← e]
      exact h10
    (repeat refine gg ?_)
    refine join_w _ ?_ hK
    clear hK K
    intro K hK
    by_cases k7 : o.d = 7
    · (repeat refine gg ?_)
      refine ix_Tick hx hI rfl hB hk.n fun w6 h6 => ?_
      (repeat refine gg ?_)
      refine (upd h6).store (i := 0) (j := 5) rfl ⟨rfl, rfl⟩ (by simp [encAn]) fun w7 h7 _ => ?_
      (repeat refine gg ?_)
      refine h7.store (i := 0) (j := 0) rfl ⟨rfl, rfl⟩ (by simp [encAn]) fun w8 h8 _ => ?_
      exact hK w8 (done (a := ⟨(tickP s o.n).2.2, 0, 0, 0, 0, (tickP s o.n).2.1, 0, 0, 0, []⟩) (by unfold doP; rw [if_neg hr', if_neg k1, if_neg k2, if_neg k3, if_neg k4, if_neg k5, if_neg k6, if_pos k7]) rfl h8)
    (repeat refine gg ?_)
    refine join_v (fun v w' => v = .bool (decide (o.d = 8) || decide (o.d = 9)) ∧ w5 = w') ?_ ?_
    · intro K2 hK2
      by_cases k8 : o.d = 8
      · (repeat refine gg ?_)
        exact hK2 _ _ ⟨by simp [k8], rfl⟩
      · (repeat refine gg ?_)
        exact hK2 _ _ ⟨by simp [k8], rfl⟩
    rintro _ _ ⟨rfl, rfl⟩
    refine join_w _ ?_ hK
    clear hK K
    intro K hK
    by_cases k8 : o.d = 8
    · have e8 : (decide (o.d = 8) || decide (o.d = 9)) = true := by simp [k8]
      rw [e8]
      (repeat refine gg ?_)
      refine ix_Get hx o.id fun w6 h6 => ?_
      (repeat refine gg ?_)
      refine At.box (vs := encIt it0) (upd h6) fun w7 h7 f7 z7 => ?_
      refine h7.put (i := 0) (n := 10) rfl rfl rfl (encIt_one _) (by simp [encIt]) fun w8 h8 _ => ?_
      obtain ⟨T8, c8⟩ := h8.cell (i := 3) rfl
      (repeat refine gg ?_)
      refine join_v (fun v w' => v = .func (.func F_index_Index_Requeue) #[pp xb] #[] ∧ w8 = w') ?_ ?_
      · intro K2 hK2
        (repeat refine gg ?_)
        exact hK2 _ _ ⟨rfl, rfl⟩
      rintro _ _ ⟨rfl, rfl⟩
      have h8d := At.drew h8
      refine ⟨fun _ w' => ∃ s', At w0 F0 (stars [pts (hsz w6) (encIt (getP s o.id).1), pts (hsz w3) (encAn an0 nilV), pts (hsz w1) (encAn an0 nilV), pts (hsz w) (encAx o), indexHP xb s']) w', ⟨s, h8d⟩, ?_⟩
      have ld : ∀ w', (∃ s', At w0 F0 (stars [pts (hsz w6) (encIt (getP s o.id).1), pts (hsz w3) (encAn an0 nilV), pts (hsz w1) (encAn an0 nilV), pts (hsz w) (encAx o), indexHP xb s']) w') → loadn 10 w' (.pointer (some ⟨hsz w6, 0, none⟩)) = some (.agg (encIt (getP s o.id).1).toArray) := by
        rintro w' ⟨s', h'⟩
        obtain ⟨T, c⟩ := h'.cell (i := 0) rfl
        exact loadn_all c (encIt_len _)
      replace c8 : blk w8.drew (hsz w) = some (.cells (encAx o).toArray T8 (0, 0)) := c8
      (repeat (first | refine gg ?_ | refine FLT.mk _ (fun _ hw_ => (ld _ hw_)) ?_))
      rw [CALLV_func (by kernel_rfl)]
      obtain ⟨A2, hx2, upd2⟩ := At.sub h8d 4 (P := indexHP xb s) rfl
      refine ix_Requeue hx2 hI (by omega) o.id fun w9 h9 => ?_
      have h9' : At w0 F0 (stars [pts (hsz w6) (encIt (getP s o.id).1), pts (hsz w3) (encAn an0 nilV), pts (hsz w1) (encAn an0 nilV), pts (hsz w) (encAx o), indexHP xb (requeueP s o.id).1]) w9 := upd2 _ _ h9
      refine ⟨⟨_, h9'⟩, ?_⟩
      refine op_told _ _ fun w10 f10 => ?_
      refine (h9'.fr0 f10).put (i := 1) (n := 10) rfl rfl rfl (encAn_one _ _) (by simp [encAn]) fun w11 h11 _ => ?_
      exact hK w11 (done (by unfold doP; rw [if_neg hr', if_neg k1, if_neg k2, if_neg k3, if_neg k4, if_neg k5, if_neg k6, if_neg k7, if_pos k8]) (by unfold toldA; split <;> rfl) h11.tail)
    by_cases k9 : o.d = 9
    · have e8 : (decide (o.d = 8) || decide (o.d = 9)) = true := by simp [k9]
      rw [e8]
      (repeat refine gg ?_)
      refine ix_Get hx o.id fun w6 h6 => ?_
      (repeat refine gg ?_)
      refine At.box (vs := encIt it0) (upd h6) fun w7 h7 f7 z7 => ?_
      refine h7.put (i := 0) (n := 10) rfl rfl rfl (encIt_one _) (by simp [encIt]) fun w8 h8 _ => ?_
      obtain ⟨T8, c8⟩ := h8.cell (i := 3) rfl
      (repeat refine gg ?_)
      refine join_v (fun v w' => v = .func (.func F_index_Index_Purge) #[pp xb] #[] ∧ w8 = w') ?_ ?_
      · intro K2 hK2
        (repeat refine gg ?_)
        exact hK2 _ _ ⟨rfl, rfl⟩
      rintro _ _ ⟨rfl, rfl⟩
      have h8d := At.drew h8
      refine ⟨fun _ w' => ∃ s', At w0 F0 (stars [pts (hsz w6) (encIt (getP s o.id).1), pts (hsz w3) (encAn an0 nilV), pts (hsz w1) (encAn an0 nilV), pts (hsz w) (encAx o), indexHP xb s']) w', ⟨s, h8d⟩, ?_⟩
      have ld : ∀ w', (∃ s', At w0 F0 (stars [pts (hsz w6) (encIt (getP s o.id).1), pts (hsz w3) (encAn an0 nilV), pts (hsz w1) (encAn an0 nilV), pts (hsz w) (encAx o), indexHP xb s']) w') → loadn 10 w' (.pointer (some ⟨hsz w6, 0, none⟩)) = some (.agg (encIt (getP s o.id).1).toArray) := by
        rintro w' ⟨s', h'⟩
        obtain ⟨T, c⟩ := h'.cell (i := 0) rfl
        exact loadn_all c (encIt_len _)
      replace c8 : blk w8.drew (hsz w) = some (.cells (encAx o).toArray T8 (0, 0)) := c8
      (repeat (first | refine gg ?_ | refine FLT.mk _ (fun _ hw_ => (ld _ hw_)) ?_))
      rw [CALLV_func (by kernel_rfl)]
      obtain ⟨A2, hx2, upd2⟩ := At.sub h8d 4 (P := indexHP xb s) rfl
      refine ix_Purge hx2 hI (by omega) o.id fun w9 h9 => ?_
      have h9' : At w0 F0 (stars [pts (hsz w6) (encIt (getP s o.id).1), pts (hsz w3) (encAn an0 nilV), pts (hsz w1) (encAn an0 nilV), pts (hsz w) (encAx o), indexHP xb (purgeP s o.id).1]) w9 := upd2 _ _ h9
      refine ⟨⟨_, h9'⟩, ?_⟩
      refine op_told _ _ fun w10 f10 => ?_
      refine (h9'.fr0 f10).put (i := 1) (n := 10) rfl rfl rfl (encAn_one _ _) (by simp [encAn]) fun w11 h11 _ => ?_
      exact hK w11 (done (by unfold doP; rw [if_neg hr', if_neg k1, if_neg k2, if_neg k3, if_neg k4, if_neg k5, if_neg k6, if_neg k7, if_neg k8, if_pos k9]) (by unfold toldA; split <;> rfl) h11.tail)
    have e8 : (decide (o.d = 8) || decide (o.d = 9)) = false := by simp [k8, k9]
    have hR0 := rightA_iff.1 hr
    have k10 : o.d = 10 := by have := hR0.d; omega
    rw [e8]
    (repeat refine gg ?_)
    refine join_w _ ?_ hK
    clear hK K
    intro K hK
    have es : convi .i64 (.int .u64 (if (1000 : Int) < (o.n : Int) then 1000 else (o.n : Int))) = some (.int .i64 (sm2 o.n)) := by
      rw [← sm2_c o.n]
      congr 2
      unfold sm2
      split <;> omega
    (repeat refine gg ?_)
    refine ix_Seen (name := o.name) hx hI (by have := hR0.t; omega) (sm2 o.n) fun w6 v G h6 s6 n6 => ?_
    obtain ⟨sv, rfl⟩ := slc_sv s6
    (repeat refine gg ?_)
    refine (upd h6).store (i := 0) (j := 9) rfl s6.one (by simp [encAn]) fun w7 h7 f7 => ?_
    (repeat refine gg ?_)
    refine h7.store (i := 0) (j := 0) rfl ⟨rfl, rfl⟩ (by simp [encAn]) fun w8 h8 f8 => ?_
    have e : doP s o = ((seenP s o.name (sm2 o.n)).1, ⟨(seenP s o.name (sm2 o.n)).2.2, 0, 0, 0, 0, 0, 0, 0, 0, (seenP s o.name (sm2 o.n)).2.1⟩) := by
      unfold doP; rw [if_neg hr', if_neg k1, if_neg k2, if_neg k3, if_neg k4, if_neg k5, if_neg k6, if_neg k7, if_neg k8, if_neg k9]; rfl
    rw [e] at hK
    have ne : ∀ b ∈ G, b ∉ [hsz w3] := fun b hb hb' => by have := n6 b hb; simp at hb'; omega
    exact hK w8 ⟨sv, G, h8, (s6.fr f7 ne).fr f8 ne, n6⟩
end
end Go.Proofs.YtpgflmjeedbimaaGreat
end
section
namespace Go.Proofs.YtpgflmjeedbimaaGreat
open Go.Den Go.Ix Go.Ev Go.Rec Go.Vint
set_option linter.unusedSimpArgs false
set_option linter.unusedVariables false
abbrev Rw := Int × SV × ByteArray
def largeRw (c : Rw) : Bool := decide (100 < c.2.1.n) || decide (300 < c.2.2.size)
def largeOs (os : List Ax) (most : Int) : Bool := decide (most < (os.length : Int)) || os.any fun o => decide (300 < o.name.size)
def rw0 : Rw := (0, nilV, noB)
theorem pp_nil (xb : Nat) : binv .ptr .eql (pp xb) (.pointer none) = some (.bool false) := rfl
set_option linter.unusedSimpArgs false
set_option linter.unusedVariables false
set_option maxRecDepth 20000
set_option maxHeartbeats 4000000
attribute [local congr] BND_cg COND_cg GEF_cg
attribute [local irreducible] capl slicea load1 loadn iaddr iaddra faddr storev newslice binv lookv mupd mdel mlenv mentry mestore slicev slicev3 slices indexs indexav textv rangev nexts clearv shiftv eqaggv convi buildv pickv lens lenl unv nilchk extractv partn JOIN
section
variable {w : World} {R : Value → World → Prop}
theorem r5_LargeO (c : Rw) (hR : ∀ w', Fr [] w w' → R (.bool (largeRw c)) w') : CALL PR F_tumbrelref05_Large [.agg (encRc c).toArray] w R := by
  refine C_tumbrelref05_Large ?_
  unfold M_tumbrelref05_Large
  refine NEW_intro fun w1 b1 f1 z1 => ?_
  replace b1 : blk w1 (hsz w) = some (.cells (encRc c).toArray 41 (0, 0)) := b1
  obtain ⟨k, nv, t⟩ := c
  unfold encRc SV.v at b1
  have := hR _ f1
  unfold largeRw at this
  simp only at this
  by_cases q1 : 100 < nv.n
  · have q1' : (100 : Int) < (nv.n : Int) := by omega
    rw [decide_eq_true q1, Bool.true_or] at this
    (repeat refine gg ?_)
    exact this
  · have q1' : ¬ (100 : Int) < (nv.n : Int) := by omega
    rw [decide_eq_false q1, Bool.false_or] at this
    by_cases q2 : 300 < t.size
    · have q2' : (300 : Int) < (t.size : Int) := by omega
      rw [decide_eq_true q2] at this
      (repeat refine gg ?_)
      exact this
    · have q2' : ¬ (300 : Int) < (t.size : Int) := by omega
      rw [decide_eq_false q2] at this
      (repeat refine gg ?_)
      exact this
theorem r12_Large {v : Value} {os : List Ax} (hv : Arr encAx 8 w v os) (hn : os.length < 1000000000) (most : Int) (hR : R (.bool (largeOs os most)) w) : CALL PR F_tumbrelref12_Large [v, .int .i64 most] w R := by
  refine C_tumbrelref12_Large ?_
  unfold M_tumbrelref12_Large
  unfold largeOs at hR
  by_cases h1 : most < (os.length : Int)
  · rw [decide_eq_true h1, Bool.true_or] at hR
    (repeat (first | refine BND_step hv.len ?_ | refine gg ?_))
    exact hR
  · rw [decide_eq_false h1, Bool.false_or] at hR
    (repeat (first | refine BND_step hv.len ?_ | refine gg ?_))
    refine loop_up 0 os.length (fun i w' => w' = w ∧ (os.take i).any (fun o => decide (300 < o.name.size)) = false) ⟨rfl, rfl⟩ (by omega) ?_
    rintro i w1 - hi ⟨rfl, e⟩ J m hJ
    by_cases hlt : i < os.length
    · have hx := List.getElem?_eq_getElem hlt
      obtain ⟨b1, o1, i1, _, _, l1⟩ := hv.spot hx rfl .i64
      (repeat (first | refine BND_step hv.len ?_ | refine BND_step (l1 (w' := w1) rfl (j := 4) rfl) ?_ | refine gg ?_))
      by_cases hb : 300 < os[i].name.size
      · have hb' : (300 : Int) < (os[i].name.size : Int) := by omega
        (repeat refine gg ?_)
        have : os.any (fun o => decide (300 < o.name.size)) = true := List.any_eq_true.2 ⟨os[i], List.getElem_mem hlt, decide_eq_true hb⟩
        rwa [this] at hR
      · have hb' : ¬ (300 : Int) < (os[i].name.size : Int) := by omega
        (repeat refine gg ?_)
        refine hJ _ hlt ⟨rfl, ?_⟩
        rw [List.take_add_one, hx, List.any_append, e]
        simp [hb]
    · (repeat (first | refine BND_step hv.len ?_ | refine gg ?_))
      rw [List.take_of_length_le (by omega)] at e
      rwa [e] at hR
theorem r5_Same1 {a b : Value} {x y : Rw} {ns ms : List Nat} (ha : Arr encRc 3 w a [x]) (hb : Arr encRc 3 w b [y]) (h1 : Arr encU 1 w x.2.1.v ns) (h2 : Arr encU 1 w y.2.1.v ms) (hn : ns.length < 1000000000)
    (hR : ∀ w', Fr [] w w' → R (.bool (decide (x.1 = y.1 ∧ x.2.2 = y.2.2 ∧ ns = ms))) w') : CALL PR F_tumbrelref05_Same [a, b] w R := by
  refine C_tumbrelref05_Same ?_
  unfold M_tumbrelref05_Same
  have la : lenl a = some (.int .i64 1) := ha.len
  have lb : lenl b = some (.int .i64 1) := hb.len
  (repeat refine gg ?_)
  refine loop_up 0 1 (fun i w' => Fr [] w w' ∧ (i = 1 → x.1 = y.1 ∧ x.2.2 = y.2.2 ∧ ns = ms)) ⟨Fr.refl _ _, by simp⟩ (by omega) ?_
  rintro i w1 - hi ⟨f1, e⟩ J m hJ
  have hi2 : i = 0 ∨ i = 1 := by omega
  rcases hi2 with rfl | rfl
  · have f1d : Fr [] w w1.drew := f1.trans' (Fr.drew _ _)
    obtain ⟨b1, o1, i1, _, _, l1⟩ := (ha.fr f1 (by simp)).spot (i := 0) rfl rfl .i64
    obtain ⟨b2, o2, i2, _, _, l2⟩ := (hb.fr f1 (by simp)).spot (i := 0) rfl rfl .i64
    have no : ¬ (x.1 = y.1 ∧ x.2.2 = y.2.2 ∧ ns = ms) → ∀ w', Fr [] w w' → R (.bool false) w' := fun h w' f => by
      have := hR w' f
      rwa [decide_eq_false h] at this
    (repeat (first | refine BND_step (l1 (w' := w1.drew) rfl (j := 0) rfl) ?_ | refine BND_step (l2 (w' := w1.drew) rfl (j := 0) rfl) ?_ | refine gg ?_))
    by_cases k1 : x.1 = y.1
    · by_cases k2 : x.2.2 = y.2.2
      · (repeat (first | refine BND_step (l1 (w' := w1.drew) rfl (j := 2) rfl) ?_ | refine BND_step (l2 (w' := w1.drew) rfl (j := 2) rfl) ?_ | refine gg ?_))
        (repeat (first | refine BND_step (l1 (w' := w1.drew) rfl (j := 1) rfl) ?_ | refine BND_step (l2 (w' := w1.drew) rfl (j := 1) rfl) ?_ | refine gg ?_))
        refine r2_Same (Arr.ofU (h1.fr f1d (by simp))) (Arr.ofU (h2.fr f1d (by simp))) (by simpa using hn) fun w2 f2 => ?_
        have f02 := f1d.trans' f2
        by_cases k3 : ns = ms
        · rw [decide_eq_true (castI_inj.2 k3)]
          (repeat refine gg ?_)
          exact hJ _ (by omega) ⟨f02, fun _ => ⟨k1, k2, k3⟩⟩
        · rw [decide_eq_false (fun h => k3 (castI_inj.1 h))]
          (repeat refine gg ?_)
          exact no (fun h => k3 h.2.2) _ f02
      · (repeat (first | refine BND_step (l1 (w' := w1.drew) rfl (j := 2) rfl) ?_ | refine BND_step (l2 (w' := w1.drew) rfl (j := 2) rfl) ?_ | refine gg ?_))
        exact no (fun h => k2 h.2.1) _ f1d
    · (repeat refine gg ?_)
      exact no (fun h => k1 h.1) _ f1d
  · (repeat refine gg ?_)
    have := hR _ f1
    rwa [decide_eq_true (e rfl)] at this
theorem rec_Same {x y : Rw} {ns ms : List Nat} (h1 : Arr encU 1 w x.2.1.v ns) (h2 : Arr encU 1 w y.2.1.v ms) (hn : ns.length < 1000000000)
    (hR : ∀ w', Fr [] w w' → R (.bool (decide (x.1 = y.1 ∧ x.2.2 = y.2.2 ∧ ns = ms))) w') : CALL PR F_record_Same [.agg (encRc x).toArray, .agg (encRc y).toArray] w R := by
  refine C_record_Same ?_
  unfold M_record_Same
  refine NEW_intro fun w1 b1 f1 z1 => ?_
  replace b1 : blk w1 (hsz w) = some (.cells (encRc x).toArray 29 (0, 0)) := b1
  refine NEW_intro fun w2 b2 f2 z2 => ?_
  replace b2 : blk w2 (hsz w1) = some (.cells (encRc y).toArray 29 (0, 0)) := b2
  have b12 := f2.some (by simp) b1
  have f02 := f1.trans' f2
  have no : ¬ (x.1 = y.1 ∧ x.2.2 = y.2.2 ∧ ns = ms) → ∀ w', Fr [] w w' → R (.bool false) w' := fun h w' f => by
    have := hR w' f
    rwa [decide_eq_false h] at this
  by_cases k1 : x.1 = y.1
  · (repeat refine gg ?_)
    refine sl_Equal (Arr.ofU (h1.fr f02 (by simp))) (Arr.ofU (h2.fr f02 (by simp))) (by simpa using hn) fun w3 f3 => ?_
    have c1 := f3.some (by simp) b12
    have c2 := f3.some (by simp) b2
    by_cases k3 : ns = ms
    · rw [decide_eq_true (castI_inj.2 k3)]
      by_cases k2 : x.2.2 = y.2.2
      · (repeat refine gg ?_)
        rw [decide_eq_true k2]
        have := hR _ (f02.trans' f3)
        rwa [decide_eq_true ⟨k1, k2, k3⟩] at this
      · (repeat refine gg ?_)
        rw [decide_eq_false k2]
        exact no (fun h => k2 h.2.1) _ (f02.trans' f3)
    · rw [decide_eq_false (fun h => k3 (castI_inj.1 h))]
      (repeat refine gg ?_)
      exact no (fun h => k3 h.2.2) _ (f02.trans' f3)
  · (repeat refine gg ?_)
    exact no (fun h => k1 h.1) _ f02
def aC : Cf := ⟨1, 8, 1⟩
def a1A : Ax := ⟨2, 0, 0, 0, noB, 3, 0, 8⟩
def a2A : Ax := ⟨3, -1, 0, 5, noB, 0, 0, 0⟩
def a3A : Ax := ⟨7, 0, 1, 0, noB, 0, 0, 0⟩
def aS1 : Px := (doP (newP aC) a1A).1
def aS2 : Px := (doP aS1 a2A).1
theorem aE1 : (doP (newP aC) a1A).2 = ⟨0, 1, 0, 0, 0, 0, 0, 0, 0, []⟩ := by decide
theorem aE2 : (doP aS1 a2A).2 = ⟨0, 1, 1, 0, 1, 0, 3, 0, 8, []⟩ := by decide
theorem aE3 : (doP aS2 a3A).2 = anE 1 := by decide
theorem law12_awake (hR : ∀ w', Fr [] w w' → R (.bool true) w') : CALL PR F_tumbrellaw12_awake [] w R := by
  refine C_tumbrellaw12_awake ?_
  unfold M_tumbrellaw12_awake
  (repeat (first | refine gg ?_ | (apply BND_build (encAx a2A); exact rfl)))
  refine op_Record a2A (fun h => absurd h (by decide)) fun _ w1 sv H s1 n1 f1 => ?_
  (repeat refine gg ?_)
  refine box_step (n := 3) (zs := encRc rw0) (vs := encRc (3, sv, noB)) rfl rfl (encRc_one _) (by simp [encRc]) fun w2 b2 f2 z2 => ?_
  have s2 := s1.fr f2 (by simp)
  have f02 := f1.trans' f2
  (repeat (first | refine BND_step (loadn_all b2 (encRc_len _)) ?_ | refine gg ?_))
  refine op_Of 3 noB s2.arrC fun w3 f3 => ?_
  have e : ofR 3 (numsA a2A) noB = (a2A, 0) := by decide
  rw [e]
  have b3 := f3.some (by simp) b2
  have s3 := s2.fr f3 (by simp)
  have f03 := f02.trans' f3
  (repeat refine gg ?_)
  refine box_step (n := 8) (zs := encAx zeroA) (vs := encAx a2A) rfl rfl (encAx_one _) (by simp [encAx]) fun w4 b4 f4 z4 => ?_
  have r4 := f4.some (by simp) b3
  have s4 := s3.fr f4 (by simp)
  have f04 := f03.trans' f4
  (repeat (first | refine gg ?_ | (apply BND_build (cfC aC); exact rfl)))
  refine ix_New aC (fun h => absurd (by decide) h) fun hr w5 xb F hx f5 n5 => ?_
  have r5 := f5.some (by simp) r4
  have o5 := f5.some (by simp) b4
  have s5 := s4.fr f5 (by simp)
  have f05 := f04.trans' f5
  have h5 : At w5 F (indexHP xb (newP aC)) w5 := At.start hx
  have g5 := f5.grow
  have g3 := f3.grow
  have q0 : QInv (newP aC) (newP aC).now 0 := inv_new hr
  have hP := pp_nil xb
  have keep : ∀ {P w' b c}, At w5 F P w' → b < hsz w4 → blk w5 b = some c → blk w' b = some c := fun h hb e => h.frame.some (fun hm => by have := n5 _ hm; omega) e
  (repeat (first | refine gg ?_ | (apply BND_build (whC 3 0 8); exact rfl)))
  refine BND_build (encAx a1A) rfl ?_
  refine op_Do h5 q0 (by omega) a1A ⟨by decide, by decide, by decide, by decide⟩ fun w6 sv6 G6 h6 s6 n6 => ?_
  rw [aE1] at s6 ⊢
  have q1 : QInv aS1 aS1.now 200 := doP_inv q0 ⟨by decide, by decide, by decide, by decide⟩
  have g56 := h6.frame.grow
  have f06 : Fr [] w w6 := f05.trans h6.frame fun b hb => .inr (by have := n5 b hb; have := f04.grow; omega)
  refine At.box (vs := encAn an0 nilV) (At.into h6) fun w7 h7 f7 z7 => h7.put (i := 0) (n := 10) (vs := encAn ⟨0, 1, 0, 0, 0, 0, 0, 0, 0, []⟩ sv6) rfl rfl rfl (encAn_one _ _) (by simp [encAn]) fun w8 h8 _ => ?_
  replace h8 : At w5 F (stars [pts (hsz w6) (encAn ⟨0, 1, 0, 0, 0, 0, 0, 0, 0, []⟩ sv6), indexHP xb aS1]) w8 := h8
  have o8 := keep h8 (by omega) o5
  (repeat (first | refine BND_step (loadn_all o8 (encAx_len _)) ?_ | refine gg ?_))
  obtain ⟨A8, hx8, upd8⟩ := At.sub h8 1 (P := indexHP xb aS1) rfl
  refine op_Do hx8 q1 (by omega) a2A ⟨by decide, by decide, by decide, by decide⟩ fun w9 sv9 G9 h9 s9 n9 => ?_
  rw [aE2] at s9 ⊢
  have q2 : QInv aS2 aS2.now 400 := doP_inv q1 ⟨by decide, by decide, by decide, by decide⟩
  have h9' : At w5 F (stars [pts (hsz w6) (encAn ⟨0, 1, 0, 0, 0, 0, 0, 0, 0, []⟩ sv6), indexHP xb aS2]) w9 := upd8 _ _ h9
  refine At.box (vs := encAn an0 nilV) h9' fun w10 h10 f10 z10 => h10.put (i := 0) (n := 10) (vs := encAn ⟨0, 1, 1, 0, 1, 0, 3, 0, 8, []⟩ sv9) rfl rfl rfl (encAn_one _ _) (by simp [encAn]) fun w11 h11 _ => ?_
  replace h11 : At w5 F (stars [pts (hsz w9) (encAn ⟨0, 1, 1, 0, 1, 0, 3, 0, 8, []⟩ sv9), pts (hsz w6) (encAn ⟨0, 1, 0, 0, 0, 0, 0, 0, 0, []⟩ sv6), indexHP xb aS2]) w11 := h11
  refine BND_build (encAx a3A) rfl ?_
  obtain ⟨A11, hx11, upd11⟩ := At.sub h11 2 (P := indexHP xb aS2) rfl
  refine op_Do hx11 q2 (by omega) a3A ⟨by decide, by decide, by decide, by decide⟩ fun w12 sv12 G12 h12 s12 n12 => ?_
  rw [aE3] at s12 ⊢
  have h12' := upd11 _ _ h12
  refine At.box (vs := encAn an0 nilV) h12' fun w13 h13 f13 z13 => h13.put (i := 0) (n := 10) (vs := encAn (anE 1) sv12) rfl rfl rfl (encAn_one _ _) (by simp [encAn]) fun w14 h14 _ => ?_
  replace h14 : At w5 F (stars [pts (hsz w12) (encAn (anE 1) sv12), pts (hsz w9) (encAn ⟨0, 1, 1, 0, 1, 0, 3, 0, 8, []⟩ sv9), pts (hsz w6) (encAn ⟨0, 1, 0, 0, 0, 0, 0, 0, 0, []⟩ sv6), indexHP xb (doP aS2 a3A).1]) w14 := h14
  obtain ⟨Tc, cc⟩ := h14.cell (i := 0) rfl
  obtain ⟨Tb, cb⟩ := h14.cell (i := 1) rfl
  obtain ⟨Ta, ca⟩ := h14.cell (i := 2) rfl
  have o14 := keep h14 (by omega) o5
  have r14 := keep h14 (by omega) r5
  have g4 := f04.grow
  have l1 := s1.lt
  have g24 := (f2.trans' (f3.trans' f4)).grow
  have s14 : Slc encU 1 w14 sv.v (numsA a2A) H := s5.fr h14.frame fun b hb hb' => by have := n5 b hb'; have := l1 b hb; omega
  have f14 : Fr [] w w14 := f05.trans h14.frame fun b hb => .inr (by have := n5 b hb; omega)
  (repeat (first | refine BND_step (loadn_all r14 (encRc_len _)) ?_ | refine gg ?_))
  refine newone_step (enc := encRc) (x := (3, sv, noB)) encRc_len rfl fun t1 w15 t15 f15 z15 => ?_
  (repeat refine gg ?_)
  refine newlist_step (enc := encU) (fun _ => rfl) [0, 5] (newslice_two 22 _ _ _ rfl rfl w15) fun t2 w16 t16 f16 => ?_
  obtain ⟨sv2, rfl⟩ := slc_sv t16
  (repeat (first | refine gg ?_ | (apply BND_build (encRc (3, sv2, noB)); exact rfl)))
  refine newone_step (enc := encRc) (x := (3, sv2, noB)) encRc_len rfl fun t3 w17 t17 f17 z17 => ?_
  (repeat refine gg ?_)
  have f16' := f16.trans' f17
  refine r5_Same1 (ns := [0, 5]) (ms := [0, 5]) (t15.fr f16' (by simp)).arr t17.arr (s14.fr (f15.trans' f16') (by simp)).arr (t16.fr f17 (by simp)).arr (by simp) fun w18 f18 => ?_
  simp only [and_self, decide_true]
  have fz : Fr [] w14 w18 := f15.trans' (f16'.trans' f18)
  have o18 := fz.some (by simp) o14
  have a18 := fz.some (by simp) ca
  have b18 := fz.some (by simp) cb
  have c18 := fz.some (by simp) cc
  have av := loadn_all a18 (encAn_len _ _)
  have ov := loadn_all o18 (encAx_len _)
  have o18' := o18
  replace o18 : blk w18 (hsz w3) = some (.cells [Value.int .i64 3, .int .i64 (-1), .int .u64 0, .int .u64 5, .string noB, .int .u64 0, .int .u64 0, .int .i64 0].toArray 26 (0, 0)) := o18
  replace a18 : blk w18 (hsz w6) = some (.cells [Value.int .i64 0, .int .u64 1, .int .u64 0, .int .i64 0, .int .i64 0, .int .i64 0, .int .u64 0, .int .u64 0, .int .i64 0, sv6.v].toArray Ta (0, 0)) := a18
  replace b18 : blk w18 (hsz w9) = some (.cells [Value.int .i64 0, .int .u64 1, .int .u64 1, .int .i64 0, .int .i64 1, .int .i64 0, .int .u64 3, .int .u64 0, .int .i64 8, sv9.v].toArray Tb (0, 0)) := b18
  replace c18 : blk w18 (hsz w12) = some (.cells [Value.int .i64 1, .int .u64 0, .int .u64 0, .int .i64 0, .int .i64 0, .int .i64 0, .int .u64 0, .int .u64 0, .int .i64 0, sv12.v].toArray Tc (0, 0)) := c18
  (repeat refine gg ?_)
  have s18 : Arr encUd 1 w18 sv6.v [] := by
    obtain ⟨a, c, e, _⟩ := s6.arr
    exact ⟨a, c, e, .inl rfl⟩
  refine op_Same (a := ⟨0, 1, 0, 0, 0, 0, 0, 0, 0, []⟩) (b := ⟨0, 1, 0, 0, 0, 0, 0, 0, 0, []⟩) s18 s18 (by simp) fun w19 f19 => ?_
  simp only [decide_true]
  have o19 := f19.some (by simp) o18'
  (repeat (first | refine BND_step (loadn_all o19 (encAx_len _)) ?_ | refine gg ?_))
  refine op_Right a2A fun w20 f20 => ?_
  rw [show rightA a2A = true by decide]
  (repeat refine gg ?_)
  exact hR w20 (f14.trans' (fz.trans' (f19.trans' f20)))
end
end Go.Proofs.YtpgflmjeedbimaaGreat
end
section
namespace Go.Proofs.YtpgflmjeedbimaaGreat
open Go.Den Go.Ix Go.Ev Go.Rec Go.Vint
set_option linter.unusedSimpArgs false
set_option linter.unusedVariables false
def recP (o : Ax) : Int × List Nat × ByteArray × Int := if rightA o = true then (o.d, numsA o, o.name, 0) else (0, [], noB, 1)
theorem nums_few (o : Ax) : (numsA o).length ≤ 5 := by
  unfold numsA
  (repeat' split) <;> simp
set_option linter.unusedSimpArgs false
set_option linter.unusedVariables false
set_option maxRecDepth 20000
set_option maxHeartbeats 4000000
attribute [local congr] BND_cg COND_cg GEF_cg
attribute [local irreducible] capl slicea load1 loadn iaddr iaddra faddr storev newslice binv lookv mupd mdel mlenv mentry mestore slicev slicev3 slices indexs indexav textv rangev nexts clearv shiftv eqaggv convi buildv pickv lens lenl unv nilchk extractv partn JOIN
section
variable {w : World} {R : Value → World → Prop}
theorem op_RecordP (o : Ax) (hR : ∀ w' sv H, Slc encU 1 w' sv.v (recP o).2.1 H → (∀ b ∈ H, hsz w ≤ b) → Fr [] w w' → R (.tuple #[.agg (encRc ((recP o).1, sv, (recP o).2.2.1)).toArray, .int .i64 (recP o).2.2.2]) w') : CALL PR F_op_Record [.agg (encAx o).toArray] w R := by
  refine op_Record o (fun h w' f => ?_) fun h w' sv H s n f => ?_
  · have e : recP o = (0, [], noB, 1) := by unfold recP; rw [if_neg (by rw [h]; simp)]
    rw [e] at hR
    exact hR w' nilV [] (Slc.nil _ _ _) (by simp) f
  · have e : recP o = (o.d, numsA o, o.name, 0) := by unfold recP; rw [if_pos h]
    rw [e] at hR
    exact hR w' sv H s n f
theorem r12_RecordP (o : Ax) (hR : ∀ w' sv H, Slc encU 1 w' sv.v (recP o).2.1 H → (∀ b ∈ H, hsz w ≤ b) → Fr [] w w' → R (.tuple #[.agg (encRc ((recP o).1, sv, (recP o).2.2.1)).toArray, .int .i64 (recP o).2.2.2]) w') : CALL PR F_tumbrelref12_Record [.agg (encAx o).toArray] w R := by
  refine r12_Record o (fun h w' f => ?_) fun h w' sv H s n f => ?_
  · have e : recP o = (0, [], noB, 1) := by unfold recP; rw [if_neg (by rw [h]; simp)]
    rw [e] at hR
    exact hR w' nilV [] (Slc.nil _ _ _) (by simp) f
  · have e : recP o = (o.d, numsA o, o.name, 0) := by unfold recP; rw [if_pos h]
    rw [e] at hR
    exact hR w' sv H s n f
theorem op_tells (o : Ax) {sv : SV} {ns : List Nat} (k : Int) (t : ByteArray) (hn : ArrC encU 1 w sv.v ns) {a b : An} {x y : SV} (hx : Arr encUd 1 w x.v a.ids) (hy : Arr encUd 1 w y.v b.ids) (hR : ∀ w', Fr [] w w' → R (.bool true) w') :
    CALL PR F_tumbrellaw12_OpTells [.agg (encAx o).toArray, .agg (encRc (k, sv, t)).toArray, .agg (encAn a x).toArray, .agg (encAn b y).toArray] w R := by
  refine C_tumbrellaw12_OpTells ?_
  unfold M_tumbrellaw12_OpTells
  refine NEW_intro fun w1 b1 f1 z1 => NEW_intro fun w2 b2 f2 z2 => NEW_intro fun w3 b3 f3 z3 => NEW_intro fun w4 b4 f4 z4 => ?_
  replace b1 : blk w1 (hsz w) = some (.cells (encAx o).toArray 26 (0, 0)) := b1
  replace b2 : blk w2 (hsz w1) = some (.cells (encRc (k, sv, t)).toArray 29 (0, 0)) := b2
  replace b3 : blk w3 (hsz w2) = some (.cells (encAn a x).toArray 32 (0, 0)) := b3
  replace b4 : blk w4 (hsz w3) = some (.cells (encAn b y).toArray 32 (0, 0)) := b4
  refine law12_awake fun w5 f5 => ?_
  have f35 := f4.trans' f5
  have f25 := f3.trans' f35
  have f15 := f2.trans' f25
  have f05 := f1.trans' f15
  have o5 := f15.some (by simp) b1
  have r5 := f25.some (by simp) b2
  have a5 := f35.some (by simp) b3
  have y5 := f5.some (by simp) b4
  (repeat (first | refine BND_step (loadn_all o5 (encAx_len _)) ?_ | refine gg ?_))
  refine law12_own o fun w6 f6 => ?_
  refine newone_step (enc := encAx) (x := o) encAx_len rfl fun t1 w7 t7 f7 z7 => ?_
  refine r12_Large t7.arr (by simp) 1 ?_
  have f57 := f6.trans' f7
  have f07 := f05.trans' f57
  cases hl : largeOs [o] 1 with
  | true =>
    (repeat refine gg ?_)
    exact hR _ f07
  | false =>
  have r7 := f57.some (by simp) r5
  (repeat (first | refine BND_step (loadn_all r7 (encRc_len _)) ?_ | refine gg ?_))
  refine r5_LargeO _ fun w9 f9 => ?_
  have f09 := f07.trans' f9
  cases hl2 : largeRw (k, sv, t) with
  | true =>
    (repeat refine gg ?_)
    exact hR _ f09
  | false =>
  have f59 := f57.trans' f9
  have a9 := f59.some (by simp) a5
  have y9 := f59.some (by simp) y5
  have o9 := f59.some (by simp) o5
  have r9 := f59.some (by simp) r5
  by_cases ha : (200 : Int) < (a.ids.length : Int)
  · (repeat (first | refine BND_step hx.len ?_ | refine gg ?_))
    exact hR _ f09
  by_cases hb : (200 : Int) < (b.ids.length : Int)
  · (repeat (first | refine BND_step hx.len ?_ | refine BND_step hy.len ?_ | refine gg ?_))
    exact hR _ f09
  (repeat (first | refine BND_step hx.len ?_ | refine BND_step hy.len ?_ | refine BND_step (loadn_all o9 (encAx_len _)) ?_ | refine gg ?_))
  refine op_RecordP o fun w10 sp H1 p10 nH1 f10 => ?_
  (repeat refine gg ?_)
  refine box_step (n := 3) (zs := encRc rw0) (vs := encRc ((recP o).1, sp, (recP o).2.2.1)) rfl rfl (encRc_one _) (by simp [encRc]) fun w12 b12 f12 z12 => ?_
  have f912 := f10.trans' f12
  have o12 := f912.some (by simp) o9
  (repeat (first | refine BND_step (loadn_all o12 (encAx_len _)) ?_ | refine gg ?_))
  refine law12_own o fun w13 f13 => ?_
  refine r12_RecordP o fun w14 sq H2 q14 nH2 f14 => ?_
  (repeat refine gg ?_)
  refine box_step (n := 3) (zs := encRc rw0) (vs := encRc ((recP o).1, sq, (recP o).2.2.1)) rfl rfl (encRc_one _) (by simp [encRc]) fun w16 b16 f16 z16 => ?_
  have f1216 := f13.trans' (f14.trans' f16)
  have f916 := f912.trans' f1216
  have r16 := f916.some (by simp) r9
  (repeat (first | refine BND_step (loadn_all r16 (encRc_len _)) ?_ | refine gg ?_))
  refine op_Of k t (hn.fr (f09.trans' f916) (by simp)) fun w17 f17 => ?_
  (repeat refine gg ?_)
  refine box_step (n := 8) (zs := encAx zeroA) (vs := encAx (ofR k ns t).1) rfl rfl (encAx_one _) (by simp [encAx]) fun w19 b19 f19 z19 => ?_
  have f1619 := f17.trans' f19
  have r19 := f1619.some (by simp) r16
  (repeat (first | refine BND_step (loadn_all r19 (encRc_len _)) ?_ | refine gg ?_))
  refine r12_Of k t (hn.fr (f09.trans' (f916.trans' f1619)) (by simp)).arr fun w20 f20 => ?_
  (repeat refine gg ?_)
  refine box_step (n := 8) (zs := encAx zeroA) (vs := encAx (ofR k ns t).1) rfl rfl (encAx_one _) (by simp [encAx]) fun w22 v22 f22 z22 => ?_
  have f1922 := f20.trans' f22
  have f1622 := f1619.trans' f1922
  have f1222 := f1216.trans' f1622
  have f922 := f912.trans' f1222
  have f022 := f09.trans' f922
  have p22 := f1222.some (by simp) b12
  have q22 := f1622.some (by simp) b16
  have u22 := f1922.some (by simp) b19
  have o22 := f922.some (by simp) o9
  have a22 := f922.some (by simp) a9
  have b22 := f922.some (by simp) y9
  have np22 : Arr encU 1 w22 sp.v (recP o).2.1 := (p10.fr (f12.trans' f1222) (by simp)).arr
  have nq22 : Arr encU 1 w22 sq.v (recP o).2.1 := (q14.fr (f16.trans' f1622) (by simp)).arr
  have hsmall : (recP o).2.1.length < 1000000000 := by
    unfold recP
    split
    · have := nums_few o; show (numsA o).length < _; omega
    · simp
  have fd : Fr [] w22 w22.drew := Fr.drew _ _
  refine ⟨fun _ w' => Fr [] w22 w', fd, fd, fd, fd, fd, fd, ?_⟩
  have o22d := fd.some (by simp) o22
  (repeat (first | refine BND_step (loadn_all o22d (encAx_len _)) ?_ | refine gg ?_ | refine FLT.mk _ (fun _ hw_ => (loadn_all (hw_.some (by simp) o22) rfl)) ?_))
  refine op_Right o fun w23 f23 => ?_
  have f23' := fd.trans' f23
  refine ⟨f23', f23', f23', f23', f23', f23', ?_⟩
  refine law12_own o fun w24 f24 => ?_
  have f24' := f23'.trans' f24
  refine ⟨f24', f24', f24', f24', f24', ?_⟩
  refine r12_Right o fun w25 f25 => ?_
  have f25' := f24'.trans' f25
  refine ⟨f25', f25', f25', f25', f25', ?_⟩
  (repeat (first | refine gg ?_ | refine FLT.mk _ (fun _ hw_ => (loadn_all (hw_.some (by simp) p22) rfl)) ?_ | refine FLT.mk _ (fun _ hw_ => (loadn_all (hw_.some (by simp) q22) rfl)) ?_))
  refine join_v (fun v w' => v = .bool true ∧ Fr [] w w') ?_ ?_
  rotate_left
  · rintro _ w26 ⟨rfl, f26⟩
    exact hR w26 f26
  intro K hK
  refine ⟨?_, ?_⟩
  · (repeat refine gg ?_)
    refine newone_step (enc := encRc) (x := ((recP o).1, sp, (recP o).2.2.1)) encRc_len rfl fun t1 w27 t27 f27 z27 => ?_
    have f27' := f25'.trans' f27
    refine ⟨f27', f27', f27', f27', ?_⟩
    (repeat refine gg ?_)
    refine newone_step (enc := encRc) (x := ((recP o).1, sq, (recP o).2.2.1)) encRc_len rfl fun t2 w28 t28 f28 z28 => ?_
    have f28' := f27'.trans' f28
    refine ⟨f28', f28', f28', f28', ?_⟩
    (repeat refine gg ?_)
    refine r5_Same1 (t27.fr f28 (by simp)).arr t28.arr (np22.fr f28' (by simp)) (nq22.fr f28' (by simp)) hsmall fun w29 f29 => ?_
    rw [decide_eq_true (show ((recP o).1, sp, (recP o).2.2.1).1 = ((recP o).1, sq, (recP o).2.2.1).1 ∧ ((recP o).1, sp, (recP o).2.2.1).2.2 = ((recP o).1, sq, (recP o).2.2.1).2.2 ∧ (recP o).2.1 = (recP o).2.1 from ⟨rfl, rfl, rfl⟩)]
    have f29' : Fr [] w22 w29 := f25'.trans' (f27.trans' (f28.trans' f29))
    refine ⟨f29', f29', f29', ?_⟩
    have u29 := f29'.some (by simp) u22
    (repeat (first | refine BND_step (loadn_all u29 (encAx_len _)) ?_ | refine gg ?_ | refine FLT.mk _ (fun _ hw_ => (loadn_all (hw_.some (by simp) v22) rfl)) ?_))
    refine law12_own _ fun w30 f30 => ?_
    have f30' := f29'.trans' f30
    refine ⟨f30', f30', f30', ?_⟩
    have ea := eqA (ofR k ns t).1 (ofR k ns t).1
    rw [decide_eq_true rfl] at ea
    have a30 := f30'.some (by simp) a22
    have b30 := f30'.some (by simp) b22
    (repeat (first | refine BND_step (loadn_all a30 (encAn_len _ _)) ?_ | refine BND_step (loadn_all b30 (encAn_len _ _)) ?_ | refine gg ?_ | refine FLT.mk _ (fun _ hw_ => (loadn_all (hw_.some (by simp) a22) rfl)) ?_ | refine FLT.mk _ (fun _ hw_ => (loadn_all (hw_.some (by simp) b22) rfl)) ?_))
    refine op_Same (hx.fr (f022.trans' f30') (by simp)) (hy.fr (f022.trans' f30') (by simp)) (by omega) fun w31 f31 => ?_
    have f31' := f30'.trans' f31
    refine ⟨f31', f31', ?_⟩
    (repeat refine gg ?_)
    refine law12_answer _ _ fun w32 f32 => ?_
    have f32' := f31'.trans' f32
    refine ⟨f32', ?_⟩
    (repeat refine gg ?_)
    refine law12_answer _ _ fun w33 f33 => ?_
    have f33' := f32'.trans' f33
    (repeat refine gg ?_)
    refine r12_Same (hx.fr (f022.trans' f33') (by simp)) (hy.fr (f022.trans' f33') (by simp)) (by omega) fun w34 f34 => ?_
    (repeat (first | refine BND_step (binv_eqb _ _) ?_ | refine gg ?_))
    refine hK _ _ ⟨by simp, f022.trans' (f33'.trans' f34)⟩
  · (repeat refine gg ?_)
    refine newone_step (enc := encRc) (x := ((recP o).1, sq, (recP o).2.2.1)) encRc_len rfl fun t2 w27 t27 f27 z27 => ?_
    have f27' := f25'.trans' f27
    refine ⟨f27', f27', f27', f27', ?_⟩
    (repeat refine gg ?_)
    refine newone_step (enc := encRc) (x := ((recP o).1, sp, (recP o).2.2.1)) encRc_len rfl fun t1 w28 t28 f28 z28 => ?_
    have f28' := f27'.trans' f28
    refine ⟨f28', f28', f28', f28', ?_⟩
    (repeat refine gg ?_)
    refine r5_Same1 t28.arr (t27.fr f28 (by simp)).arr (np22.fr f28' (by simp)) (nq22.fr f28' (by simp)) hsmall fun w29 f29 => ?_
    rw [decide_eq_true (show ((recP o).1, sp, (recP o).2.2.1).1 = ((recP o).1, sq, (recP o).2.2.1).1 ∧ ((recP o).1, sp, (recP o).2.2.1).2.2 = ((recP o).1, sq, (recP o).2.2.1).2.2 ∧ (recP o).2.1 = (recP o).2.1 from ⟨rfl, rfl, rfl⟩)]
    have f29' : Fr [] w22 w29 := f25'.trans' (f27.trans' (f28.trans' f29))
    refine ⟨f29', f29', f29', ?_⟩
    have u29 := f29'.some (by simp) u22
    (repeat (first | refine BND_step (loadn_all u29 (encAx_len _)) ?_ | refine gg ?_ | refine FLT.mk _ (fun _ hw_ => (loadn_all (hw_.some (by simp) v22) rfl)) ?_))
    refine law12_own _ fun w30 f30 => ?_
    have f30' := f29'.trans' f30
    refine ⟨f30', f30', f30', ?_⟩
    have ea := eqA (ofR k ns t).1 (ofR k ns t).1
    rw [decide_eq_true rfl] at ea
    have a30 := f30'.some (by simp) a22
    have b30 := f30'.some (by simp) b22
    (repeat (first | refine BND_step (loadn_all a30 (encAn_len _ _)) ?_ | refine BND_step (loadn_all b30 (encAn_len _ _)) ?_ | refine gg ?_ | refine FLT.mk _ (fun _ hw_ => (loadn_all (hw_.some (by simp) a22) rfl)) ?_ | refine FLT.mk _ (fun _ hw_ => (loadn_all (hw_.some (by simp) b22) rfl)) ?_))
    refine op_Same (hx.fr (f022.trans' f30') (by simp)) (hy.fr (f022.trans' f30') (by simp)) (by omega) fun w31 f31 => ?_
    have f31' := f30'.trans' f31
    refine ⟨f31', f31', ?_⟩
    (repeat refine gg ?_)
    refine law12_answer _ _ fun w32 f32 => ?_
    have f32' := f31'.trans' f32
    refine ⟨f32', ?_⟩
    (repeat refine gg ?_)
    refine law12_answer _ _ fun w33 f33 => ?_
    have f33' := f32'.trans' f33
    (repeat refine gg ?_)
    refine r12_Same (hx.fr (f022.trans' f33') (by simp)) (hy.fr (f022.trans' f33') (by simp)) (by omega) fun w34 f34 => ?_
    (repeat (first | refine BND_step (binv_eqb _ _) ?_ | refine gg ?_))
    refine hK _ _ ⟨by simp, f022.trans' (f33'.trans' f34)⟩
end
end Go.Proofs.YtpgflmjeedbimaaGreat
end
section
namespace Go.Proofs.YtpgflmjeedbimaaGreat
open Go.Den Go.Ix Go.Ev Go.Rec Go.Vint
set_option linter.unusedSimpArgs false
set_option linter.unusedVariables false
theorem oneL {α : Type} : ∀ {l : List α}, l.length = 1 → ∃ a, l = [a]
  | [a], _ => ⟨a, rfl⟩
theorem ofR_back {k : Int} {ns : List Nat} {t : ByteArray} (h : (ofR k ns t).2 = 0) : recP (ofR k ns t).1 = (k, ns, t, 0) := by
  unfold ofR at h ⊢
  cases hb : Go.Rec.rightRk k ns.length t.size with
  | false => rw [hb] at h; simp at h
  | true =>
    rw [hb] at h
    simp only [if_true] at h ⊢
    unfold Go.Rec.rightRk at hb
    simp only [Bool.and_eq_true, decide_eq_true_eq] at hb
    obtain ⟨⟨hk, hl⟩, _⟩ := hb
    unfold knownB at hk
    simp only [Bool.and_eq_true, decide_eq_true_eq] at hk
    obtain ⟨n, rfl⟩ : ∃ n : Nat, k = (n : Int) := ⟨k.toNat, by omega⟩
    rw [Int.toNat_natCast] at *
    unfold ofA at h ⊢
    cases hr : rightA (preA ⟨n, ns, t.data.toList⟩) with
    | false => rw [hr] at h; simp at h
    | true =>
      simp only [if_true]
      unfold recP
      rw [if_pos hr]
      have hR := rightA_iff.1 hr
      have hd : n ≤ 10 := by
        have := hR.d
        unfold preA at this
        simp only at this
        by_cases h2 : n = 2
        · omega
        by_cases h3 : n = 3
        · omega
        rw [if_neg h2, if_neg h3] at this
        revert this
        (repeat' split) <;> intro this <;> simp only at this <;> omega
      have hten : n = 1 ∨ n = 2 ∨ n = 3 ∨ n = 4 ∨ n = 5 ∨ n = 6 ∨ n = 7 ∨ n = 8 ∨ n = 9 ∨ n = 10 := by omega
      have hm := hR.m
      rcases hten with rfl | rfl | rfl | rfl | rfl | rfl | rfl | rfl | rfl | rfl
      · obtain rfl : ns = [] := List.eq_nil_of_length_eq_zero hl
        simp [preA, numsA, id2D, idD, txB_data]
      · obtain ⟨a, b, c, d, e, rfl⟩ := five (hl.trans (by decide))
        have h2 := may2 hm (by simp [preA])
        simp only [preA, if_true, List.getD_cons_zero, List.getD_cons_succ] at h2
        unfold sml at h2
        simp [preA, numsA, txB_data, sml]
        omega
      · obtain ⟨a, b, rfl⟩ := two (hl.trans (by decide))
        have h3 := may3 hm (by simp [preA])
        simp [preA] at h3
        unfold sml at h3
        simp [preA, numsA, txB_data, sml]
        omega
      · obtain ⟨a, rfl⟩ := oneL (hl.trans (by decide))
        simp [preA, numsA, id2D, idD, txB_data]
      · obtain ⟨a, b, rfl⟩ := two (hl.trans (by decide))
        simp [preA, numsA, id2D, idD, txB_data]
      · obtain ⟨a, b, rfl⟩ := two (hl.trans (by decide))
        simp [preA, numsA, id2D, idD, txB_data]
      · obtain ⟨a, rfl⟩ := oneL (hl.trans (by decide))
        simp [preA, numsA, id2D, idD, txB_data]
      · obtain ⟨a, rfl⟩ := oneL (hl.trans (by decide))
        simp [preA, numsA, id2D, idD, txB_data]
      · obtain ⟨a, rfl⟩ := oneL (hl.trans (by decide))
        simp [preA, numsA, id2D, idD, txB_data]
      · obtain ⟨a, rfl⟩ := oneL (hl.trans (by decide))
        simp [preA, numsA, id2D, idD, txB_data]
theorem ofR_zero {k : Int} {ns : List Nat} {t : ByteArray} (h : (ofR k ns t).2 ≠ 0) : (ofR k ns t).1 = zeroA := by
  unfold ofR ofA at *
  split at h
  · rename_i h1
    rw [if_pos h1]
    split at h
    · simp at h
    · rename_i h2; rw [if_neg h2]
  · rename_i h1; rw [if_neg h1]
theorem ofR_good {k : Int} {ns : List Nat} {t : ByteArray} (h : (ofR k ns t).2 = 0) : rightA (ofR k ns t).1 = true := by
  unfold ofR at *
  split at h
  · rename_i h1; rw [if_pos h1]; exact ofA_good h
  · simp at h
theorem ofR_rec {o : Ax} (hr : rightA o = true) (hk : OkA o) : ofR o.d (numsA o) o.name = (o, 0) ∧ Go.Rec.rightRk o.d (numsA o).length o.name.size = true := by
  obtain ⟨h1, h2, h3⟩ := right_rec hr hk
  have e : o.name.data.toList.length = o.name.size := Array.length_toList
  rw [e] at h1
  refine ⟨?_, h1⟩
  unfold ofR
  rw [if_pos h1]
  exact h3
set_option linter.unusedSimpArgs false
set_option linter.unusedVariables false
set_option maxRecDepth 20000
set_option maxHeartbeats 4000000
attribute [local congr] BND_cg COND_cg GEF_cg
attribute [local irreducible] capl slicea load1 loadn iaddr iaddra faddr storev newslice binv lookv mupd mdel mlenv mentry mestore slicev slicev3 slices indexs indexav textv rangev nexts clearv shiftv eqaggv convi buildv pickv lens lenl unv nilchk extractv partn JOIN
section
variable {w : World} {R : Value → World → Prop}
theorem op_back (o : Ax) (hk : OkA o) {sv : SV} {ns : List Nat} (k : Int) (t : ByteArray) (hn : ArrC encU 1 w sv.v ns) (hR : ∀ w', Fr [] w w' → R (.bool true) w') :
    CALL PR F_tumbrellaw12_OpBack [.agg (encAx o).toArray, .agg (encRc (k, sv, t)).toArray] w R := by
  refine C_tumbrellaw12_OpBack ?_
  unfold M_tumbrellaw12_OpBack
  refine NEW_intro fun w1 b1 f1 z1 => NEW_intro fun w2 b2 f2 z2 => ?_
  replace b1 : blk w1 (hsz w) = some (.cells (encAx o).toArray 26 (0, 0)) := b1
  replace b2 : blk w2 (hsz w1) = some (.cells (encRc (k, sv, t)).toArray 29 (0, 0)) := b2
  refine law12_awake fun w5 f5 => ?_
  have f15 := f2.trans' f5
  have f05 := f1.trans' f15
  have o5 := f15.some (by simp) b1
  have r5 := f5.some (by simp) b2
  (repeat (first | refine BND_step (loadn_all o5 (encAx_len _)) ?_ | refine gg ?_))
  refine law12_own o fun w6 f6 => ?_
  refine newone_step (enc := encAx) (x := o) encAx_len rfl fun t1 w7 t7 f7 z7 => ?_
  refine r12_Large t7.arr (by simp) 1 ?_
  have f57 := f6.trans' f7
  have f07 := f05.trans' f57
  cases hl : largeOs [o] 1 with
  | true =>
    (repeat refine gg ?_)
    exact hR _ f07
  | false =>
  have r7 := f57.some (by simp) r5
  (repeat (first | refine BND_step (loadn_all r7 (encRc_len _)) ?_ | refine gg ?_))
  refine r5_LargeO _ fun w9 f9 => ?_
  have f09 := f07.trans' f9
  cases hl2 : largeRw (k, sv, t) with
  | true =>
    (repeat refine gg ?_)
    exact hR _ f09
  | false =>
  have hns : ns.length < 1000 := by
    obtain ⟨a, c, e, _⟩ := hn.arr
    have e2 : sv.n = ns.length := by
      unfold SV.v at e
      simp only [Value.slice.injEq] at e
      exact e.2.1
    unfold largeRw at hl2
    simp only [Bool.or_eq_false_iff, decide_eq_false_iff_not] at hl2
    omega
  have f59 := f57.trans' f9
  have o9 := f59.some (by simp) o5
  have r9 := f59.some (by simp) r5
  (repeat (first | refine BND_step (loadn_all o9 (encAx_len _)) ?_ | refine gg ?_))
  refine op_RecordP o fun w10 sp H1 p10 nH1 f10 => ?_
  (repeat refine gg ?_)
  refine box_step (n := 3) (zs := encRc rw0) (vs := encRc ((recP o).1, sp, (recP o).2.2.1)) rfl rfl (encRc_one _) (by simp [encRc]) fun w12 b12 f12 z12 => ?_
  have f912 := f10.trans' f12
  have o12 := f912.some (by simp) o9
  (repeat (first | refine BND_step (loadn_all o12 (encAx_len _)) ?_ | refine gg ?_))
  refine op_Right o fun w13 f13 => ?_
  have f913 := f912.trans' f13
  have f013 := f09.trans' f913
  have r13 := f913.some (by simp) r9
  have o13 := f13.some (by simp) o12
  have p13 := f13.some (by simp) b12
  -- behind the first half
  have rest : ∀ w', Fr [] w13 w' → BND (loadn 3 w' (.pointer (some ⟨hsz w1, 0, none⟩))) fun t53 => CALL PR F_op_Of [t53] w' fun t54 w13 =>
      BND (extractv t54 0) fun t55 => BND (extractv t54 1) fun t56 =>
      NEW (newv 26 w13 (Value.agg (encAx zeroA).toArray)) fun u w14 => BND (storev 8 w14 u t55) fun w15 =>
      BND (binv .int .neq t56 (Value.int .i64 0)) fun t58 =>
      COND t58
      (BND (loadn 8 w15 u) fun t59 => BND (buildv (encAx zeroA).toArray []) fun t60 =>
        BND (eqaggv [(0, (.int .i64)), (1, (.int .i64)), (2, (.int .u64)), (3, (.int .u64)), (4, .string), (5, (.int .u64)), (6, (.int .u64)), (7, (.int .i64))] .eql t59 t60) fun t61 => R t61 w15)
      (BND (loadn 8 w15 u) fun t63 => CALL PR F_op_Record [t63] w15 fun t64 w16 =>
        BND (extractv t64 0) fun t65 => BND (extractv t64 1) fun t66 =>
        NEW (newv 29 w16 (Value.agg (encRc rw0).toArray)) fun s w17 => BND (storev 3 w17 s t65) fun w18 =>
        BND (binv .int .eql t66 (Value.int .i64 0)) fun t68 =>
        BND (grd (isB t68 true) (loadn 3 w18 s)) fun t70 =>
        BND (grd (isB t68 true) (loadn 3 w18 (.pointer (some ⟨hsz w1, 0, none⟩)))) fun t71 =>
        GEF (isB t68 true) (fun k_ => CALL PR F_record_Same [t70, t71] w18 k_) w18 fun t72 w19 =>
        BND (pickv t68 t72 (Value.bool false)) fun t73 =>
        BND (grd (isB t73 true) (loadn 8 w19 u)) fun t75 =>
        GEF (isB t73 true) (fun k_ => CALL PR F_op_Right [t75] w19 k_) w19 fun t76 w20 =>
        BND (pickv t73 t76 (Value.bool false)) fun t77 => R t77 w20) := by
    intro w14 f14
    have f014 := f013.trans' f14
    have r14 := f14.some (by simp) r13
    (repeat (first | refine BND_step (loadn_all r14 (encRc_len _)) ?_ | refine gg ?_))
    refine op_Of k t (hn.fr f014 (by simp)) fun w15 f15 => ?_
    (repeat refine gg ?_)
    refine box_step (n := 8) (zs := encAx zeroA) (vs := encAx (ofR k ns t).1) rfl rfl (encAx_one _) (by simp [encAx]) fun w16 b16 f16 z16 => ?_
    have f016 := f014.trans' (f15.trans' f16)
    by_cases he : (ofR k ns t).2 = 0
    · have eb := ofR_back he
      have eg := ofR_good he
      (repeat (first | refine BND_step (loadn_all b16 (encAx_len _)) ?_ | refine gg ?_))
      refine op_RecordP _ fun w17 ss H3 s17 nH3 f17 => ?_
      rw [eb] at s17 ⊢
      (repeat refine gg ?_)
      refine box_step (n := 3) (zs := encRc rw0) (vs := encRc (k, ss, t)) rfl rfl (encRc_one _) (by simp [encRc]) fun w18 b18 f18 z18 => ?_
      have f1418 := (f15.trans' f16).trans' (f17.trans' f18)
      have r18 := f1418.some (by simp) r14
      (repeat (first | refine BND_step (loadn_all b18 (encRc_len _)) ?_ | refine BND_step (loadn_all r18 (encRc_len _)) ?_ | refine gg ?_))
      refine rec_Same (x := (k, ss, t)) (y := (k, sv, t)) (s17.fr f18 (by simp)).arr (hn.fr (f014.trans' f1418) (by simp)).arr (by show ns.length < _; omega) fun w19 f19 => ?_
      rw [decide_eq_true (show (k, ss, t).1 = (k, sv, t).1 ∧ (k, ss, t).2.2 = (k, sv, t).2.2 ∧ (k, ns, t, (0 : Int)).2.1 = ns from ⟨rfl, rfl, rfl⟩)]
      have u19 := (f17.trans' (f18.trans' f19)).some (by simp) b16
      (repeat (first | refine BND_step (loadn_all u19 (encAx_len _)) ?_ | refine gg ?_))
      refine op_Right _ fun w20 f20 => ?_
      rw [eg]
      (repeat refine gg ?_)
      exact hR _ (f014.trans' (f1418.trans' (f19.trans' f20)))
    · have ez := ofR_zero he
      have ea := eqA zeroA zeroA
      rw [decide_eq_true rfl] at ea
      rw [ez] at b16
      (repeat (first | refine BND_step (loadn_all b16 (encAx_len _)) ?_ | refine gg ?_ | (apply BND_build (encAx zeroA); exact rfl)))
      exact hR _ f016
  cases hr : rightA o with
  | false =>
    have e : recP o = (0, [], noB, 1) := by unfold recP; rw [if_neg (by rw [hr]; simp)]
    rw [e]
    (repeat (first | refine BND_step (binv_neb _ _) ?_ | refine gg ?_))
    refine join_w (fun w' => Fr [] w13 w') (fun K hK => ?_) fun w' f' => rest w' f'
    (repeat refine gg ?_)
    exact hK _ (Fr.refl _ _)
  | true =>
    have e : recP o = (o.d, numsA o, o.name, 0) := by unfold recP; rw [if_pos hr]
    obtain ⟨eo, er⟩ := ofR_rec hr hk
    rw [e] at p10 p13 ⊢
    (repeat (first | refine BND_step (binv_neb _ _) ?_ | refine gg ?_))
    refine join_w (fun w' => Fr [] w13 w') (fun K hK => ?_) fun w' f' => rest w' f'
    (repeat (first | refine BND_step (loadn_all p13 (encRc_len _)) ?_ | refine gg ?_))
    refine op_Of o.d o.name (p10.fr (f12.trans' f13) (by simp)).arrC fun w14 f14 => ?_
    rw [eo]
    (repeat refine gg ?_)
    refine box_step (n := 8) (zs := encAx zeroA) (vs := encAx o) rfl rfl (encAx_one _) (by simp [encAx]) fun w15 b15 f15 z15 => ?_
    have f1315 := f14.trans' f15
    have o15 := f1315.some (by simp) o13
    have p15 := f1315.some (by simp) p13
    have ea := neA o o
    rw [decide_eq_true rfl] at ea
    (repeat (first | refine BND_step (loadn_all b15 (encAx_len _)) ?_ | refine BND_step (loadn_all o15 (encAx_len _)) ?_ | refine BND_step (loadn_all p15 (encRc_len _)) ?_ | refine gg ?_))
    refine rec_Right o.d o.name ((p10.fr (f12.trans' f13) (by simp)).fr f1315 (by simp)).arr fun w16 f16 => ?_
    rw [er]
    (repeat refine gg ?_)
    exact hK _ (f1315.trans' f16)
end
end Go.Proofs.YtpgflmjeedbimaaGreat
end
