
/- The document's sums, walked. No condition but sizes. -/
import Derived.Test.YtmefbneoljpbgaaGreatDoorSum2
import Derived.Test.YtmefbneoljpbgaaGreatDoorCrcBurst
import Derived.Test.YtmefbneoljpbgaaGreatDoorGe
import Derived.Test.YtmefbneoljpbgaaGreatDoorMb
namespace Go.Proofs.YtmefbneoljpbgaaGreatDoor
open Go.Den Go.Disk Go.Crc
theorem remW (x : BitVec 32) (k : Nat) (hk : 0 < k ∧ k < 4294967296) : binv .int .rem (.int .u32 (x.toNat : Int)) (.int .u32 (k : Int)) = some (.int .u32 ((x.toNat % k : Nat) : Int)) := by
  rw [binv_rem _ _ _ _ (by omega)]
  rfl
theorem quoW (x : BitVec 32) (k : Nat) (hk : k < 32) : binv .int .quo (.int .u32 (x.toNat : Int)) (.int .u32 ((2 ^ k : Nat) : Int)) = some (.int .u32 ((x >>> k).toNat : Int)) := by
  have h2 : 0 < 2 ^ k := Nat.two_pow_pos k
  rw [binv_quo _ _ _ _ (by omega)]
  have e : ((x.toNat : Int)).tdiv ((2 ^ k : Nat) : Int) = ((x.toNat / 2 ^ k : Nat) : Int) := rfl
  have hx := x.isLt
  have hd := Nat.div_le_self x.toNat (2 ^ k)
  rw [e, wrap_u32 (by omega), BitVec.toNat_ushiftRight, Nat.shiftRight_eq_div_pow]
theorem and1 (x : BitVec 32) : (x &&& 1#32).toNat = x.toNat % 2 := by rw [BitVec.toNat_and]; exact Nat.and_one_is_mod _
theorem notW (x : BitVec 32) : binv .int .sub (.int .u32 4294967295) (.int .u32 (x.toNat : Int)) = some (.int .u32 ((~~~ x).toNat : Int)) := by
  have hx := x.isLt
  have e : (4294967295 : Int) - (x.toNat : Int) = (((~~~ x).toNat : Nat) : Int) := by rw [BitVec.toNat_not]; omega
  rw [binv_sub, e, wrap_u32 (by have := (~~~ x).isLt; omega)]
theorem upW (c : UInt8) : convi .u32 (.int .u8 (c.toNat : Int)) = some (.int .u32 ((up c).toNat : Int)) := by
  have h := c.toNat_lt
  have e : (up c).toNat = c.toNat := by
    show (c.toBitVec.setWidth 32).toNat = _
    rw [BitVec.toNat_setWidth]
    show c.toNat % 2 ^ 32 = c.toNat
    omega
  rw [e]
  show some (Value.int .u32 (IntKind.u32.wrap (c.toNat : Int))) = _
  rw [wrap_u32 (by omega)]
theorem lowW (x : BitVec 32) : convi .u8 (.int .u32 ((x.toNat % 256 : Nat) : Int)) = some (.int .u8 ((low8 x).toNat : Int)) := by
  have e : (low8 x).toNat = x.toNat % 256 := by
    show (x.setWidth 8).toNat = _
    rw [BitVec.toNat_setWidth]
  rw [e]
  show some (Value.int .u8 (IntKind.u8.wrap ((x.toNat % 256 : Nat) : Int))) = _
  rw [wrap_u8, Nat.mod_mod]
theorem crc_snoc (s : BitVec 32) (l : List UInt8) (c : UInt8) : crcU s (l ++ [c]) = byteC (crcU s l) c := by unfold crcU; rw [List.foldl_append]; rfl
theorem shr_add (x : BitVec 32) (a b : Nat) : (x >>> a) >>> b = x >>> (a + b) := by
  apply BitVec.eq_of_toNat_eq
  simp only [BitVec.toNat_ushiftRight, Nat.shiftRight_add]
theorem four_take (x : BitVec 32) (i : Nat) (h : i < 4) : (four x).take (i + 1) = (four x).take i ++ [low8 (x >>> (8 * i))] := by
  have h4 : i = 0 ∨ i = 1 ∨ i = 2 ∨ i = 3 := by omega
  rcases h4 with rfl | rfl | rfl | rfl
  · show [low8 x] = [low8 (x >>> 0)]
    simp
  · rfl
  · rfl
  · rfl
set_option linter.unusedSimpArgs false
set_option linter.unusedVariables false
set_option maxRecDepth 20000
set_option maxHeartbeats 4000000
attribute [local congr] BND_cg COND_cg GEF_cg
attribute [local irreducible] capl slicea load1 loadn iaddr iaddra faddr storev newslice binv lookv mupd mdel mlenv mentry mestore slicev slicev3 slices indexs indexav textv rangev nexts clearv shiftv eqaggv convi buildv pickv lens lenl unv nilchk extractv partn JOIN
section
variable {w : World} {R : Value → World → Prop}
theorem r1_Entry (n : BitVec 32) (hR : R (.int .u32 ((ent n).toNat : Int)) w) : CALL PR F_tumbrelref01_Entry [.int .u32 (n.toNat : Int)] w R := by
  refine C_tumbrelref01_Entry ?_
  unfold M_tumbrelref01_Entry
  refine loop_up2 (o := .int .u32 (n.toNat : Int)) 0 8 (fun o i w' => o = .int .u32 ((iterC i n).toNat : Int) ∧ w' = w) ⟨rfl, rfl⟩ (by omega) ?_
  rintro _ i w1 - hi ⟨rfl, rfl⟩ J m hJ
  by_cases hlt : i < 8
  · have e1 := remW (iterC i n) 2 (by omega)
    have e2 := quoW (iterC i n) 1 (by omega)
    have e3 := xor32 (iterC i n >>> 1) poly
    have a1 := and1 (iterC i n)
    by_cases ho : (((iterC i n).toNat % 2 : Nat) : Int) = 1
    · (repeat refine gg ?_)
      refine join_v (fun v w' => v = .int .u32 ((iterC (i + 1) n).toNat : Int) ∧ w' = w1) (fun K hK => ?_) ?_
      · (repeat refine gg ?_)
        refine hK _ _ ⟨?_, rfl⟩
        rw [iterC_succ, step_odd (by rw [a1]; exact ho)]
      · rintro _ _ ⟨rfl, rfl⟩
        (repeat refine gg ?_)
        exact hJ _ _ hlt ⟨rfl, rfl⟩
    · (repeat refine gg ?_)
      refine join_v (fun v w' => v = .int .u32 ((iterC (i + 1) n).toNat : Int) ∧ w' = w1) (fun K hK => ?_) ?_
      · (repeat refine gg ?_)
        refine hK _ _ ⟨?_, rfl⟩
        rw [iterC_succ, step_even (by rw [a1]; exact ho)]
      · rintro _ _ ⟨rfl, rfl⟩
        (repeat refine gg ?_)
        exact hJ _ _ hlt ⟨rfl, rfl⟩
  · obtain rfl : i = 8 := by omega
    (repeat refine gg ?_)
    exact hR
theorem r1_More {bv : Value} {bs : List UInt8} (s : BitVec 32) (hb : Arr encB 1 w bv bs) (hn : bs.length < 1000000000) (hR : R (.int .u32 ((~~~ crcU (~~~ s) bs).toNat : Int)) w) : CALL PR F_tumbrelref01_More [.int .u32 (s.toNat : Int), bv] w R := by
  refine C_tumbrelref01_More ?_
  unfold M_tumbrelref01_More
  (repeat (first | refine BND_step (notW s) ?_ | refine gg ?_))
  refine loop_up2 (o := .int .u32 ((~~~ s).toNat : Int)) 0 bs.length (fun o i w' => o = .int .u32 ((crcU (~~~ s) (bs.take i)).toNat : Int) ∧ w' = w) ⟨rfl, rfl⟩ (by omega) ?_
  rintro _ i w1 - hi ⟨rfl, rfl⟩ J m hJ
  by_cases hlt : i < bs.length
  · have hx := List.getElem?_eq_getElem hlt
    generalize bs[i] = c at hx
    obtain ⟨b1, o1, i1, _, _, l1⟩ := hb.spot hx rfl .i64
    (repeat (first | refine BND_step hb.len ?_ | refine BND_step (l1 (w' := w1) rfl (j := 0) rfl) ?_ | refine BND_step (upW c) ?_ | refine BND_step (xor32 _ _) ?_ | refine gg ?_))
    refine r1_Entry _ ?_
    (repeat refine gg ?_)
    refine hJ _ _ hlt ⟨?_, rfl⟩
    have e : bs.take (i + 1) = bs.take i ++ [c] := by rw [List.take_add_one, hx]; rfl
    rw [e, crc_snoc, byte_iter]; rfl
  · obtain rfl : i = bs.length := by omega
    rw [List.take_length]
    (repeat (first | refine BND_step hb.len ?_ | refine BND_step (notW _) ?_ | refine gg ?_))
    exact hR
theorem r1_Of {bv : Value} {bs : List UInt8} (hb : Arr encB 1 w bv bs) (hn : bs.length < 1000000000) (hR : R (.int .u32 ((crcOf bs).toNat : Int)) w) : CALL PR F_tumbrelref01_Of [bv] w R := by
  refine C_tumbrelref01_Of ?_
  unfold M_tumbrelref01_Of
  exact r1_More 0#32 hb hn hR
theorem r1_Four (n : BitVec 32) (hR : ∀ w' v G, Slc encB 1 w' v (four n) G → (∀ b ∈ G, hsz w ≤ b) → Fr [] w w' → R v w') : CALL PR F_tumbrelref01_Four [.int .u32 (n.toNat : Int)] w R := by
  refine C_tumbrelref01_Four ?_
  unfold M_tumbrelref01_Four
  refine newnil_step encB fun t w1 s1 f1 z1 => ?_
  refine loop_up3 (o := .int .u32 (n.toNat : Int)) (p := t) 0 4 (fun o p i w' => ∃ G, o = .int .u32 ((n >>> (8 * i)).toNat : Int) ∧ Slc encB 1 w' p ((four n).take i) G ∧ (∀ b ∈ G, hsz w ≤ b) ∧ Fr [] w w') ⟨_, by simp, s1, by simp, f1⟩ (by omega) ?_
  rintro _ p i w2 - hi ⟨G, rfl, s2, g2, f2⟩ J m hJ
  by_cases hlt : i < 4
  · have e1 := remW (n >>> (8 * i)) 256 (by omega)
    have e2 := quoW (n >>> (8 * i)) 8 (by omega)
    rw [shr_add, show 8 * i + 8 = 8 * (i + 1) by omega] at e2
    (repeat (first | refine BND_step (lowW _) ?_ | refine gg ?_))
    refine push_step (enc := encB) (x := low8 (n >>> (8 * i))) (y := .int .u8 ((low8 (n >>> (8 * i))).toNat : Int)) s2 encB_len encB_one rfl rfl (by omega) (by simp; omega) fun v4 w4 G4 s4 g4 f4 => ?_
    have gr := f2.grow
    (repeat refine gg ?_)
    refine hJ _ _ _ hlt ⟨G4, rfl, by rw [four_take n i hlt]; exact s4, fun b hb => ?_, f2.trans f4 fun b hb => .inr (g2 b hb)⟩
    rcases g4 b hb with h | h
    · exact g2 b h
    · omega
  · obtain rfl : i = 4 := by omega
    rw [show (four n).take 4 = four n from rfl] at s2
    (repeat refine gg ?_)
    exact hR _ _ _ s2 g2 f2
theorem r1_Put {bv : Value} {bs : List UInt8} (hb : Arr encB 1 w bv bs) (hn : bs.length < 100000000) (hR : ∀ w' v G, Slc encB 1 w' v (putS bs) G → (∀ b ∈ G, hsz w ≤ b) → Fr [] w w' → R v w') : CALL PR F_tumbrelref01_Put [bv] w R := by
  refine C_tumbrelref01_Put ?_
  unfold M_tumbrelref01_Put
  refine copy_step (enc := encB) (ys := bs) (fun w9 f9 => (hb.fr f9 (by simp)).src encB_len (by omega)) encB_len encB_one rfl (by omega) (by omega) fun v2 w2 G2 s2 g2 f2 => ?_
  refine r1_Of (hb.fr f2 (by simp)) (by omega) ?_
  refine r1_Four _ fun w4 v4 G4 s4 g4 f4 => ?_
  refine APPEND_slc (s2.fr f4 (by simp)) (s4.loads encB_len) encB_len encB_one rfl (by rw [four_len]; omega) (by rw [four_len]; omega) fun v5 w5 G5 s5 f5 g5 => ?_
  have gr2 := f2.grow
  have gr4 := f4.grow
  refine hR _ _ G5 s5 (fun b hb => ?_) ((f2.trans' f4).trans f5 fun b hb => .inr (g2 b hb))
  rcases g5 b hb with h | h
  · exact g2 b h
  · omega
theorem r1_Cut {bv : Value} {bs : List UInt8} (hb : ArrC encB 1 w bv bs) (hn : bs.length < 100000000) (hR0 : ∀ w', Fr [] w w' → cutS bs = none → R (.tuple #[.slice none 0 0, .bool false]) w')
    (hR : ∀ w' v G b, cutS bs = some b → Slc encB 1 w' v b G → (∀ b ∈ G, hsz w ≤ b) → Fr [] w w' → R (.tuple #[v, .bool true]) w') : CALL PR F_tumbrelref01_Cut [bv] w R := by
  refine C_tumbrelref01_Cut ?_
  unfold M_tumbrelref01_Cut
  unfold cutS at hR hR0
  by_cases h4 : bs.length < 4
  · (repeat (first | refine BND_step hb.len ?_ | refine gg ?_))
    exact hR0 _ (Fr.refl _ _) (by rw [if_pos h4])
  rw [if_neg h4] at hR hR0
  (repeat (first | refine BND_step hb.len ?_ | refine gg ?_))
  refine newnil_step encB fun t w1 s1 f1 z1 => ?_
  have hb1 := hb.fr f1 (by simp)
  obtain ⟨va, ea, aa⟩ := hb1.to (hi := bs.length - 4) (by omega)
  (repeat (first | refine BND_step hb.len ?_ | refine BND_step (subn_ (n := bs.length) (m := 4) (by omega) (by omega)) ?_ | refine gg ?_))
  have hl : (bs.take (bs.length - 4)).length = bs.length - 4 := by rw [List.length_take]; omega
  refine APPEND_slc s1 (aa.arr.src encB_len (by omega)) encB_len encB_one rfl (by rw [hl]; simp; omega) (by rw [hl]; simp; omega) fun v2 w2 G2 s2 f2 g2 => ?_
  rw [List.nil_append] at s2
  have f02 : Fr [] w w2 := f1.trans f2 fun b hb => .inr (by simp at hb; omega)
  have g2' : ∀ b ∈ G2, hsz w ≤ b := fun b hb => by
    rcases g2 b hb with h | h
    · simp at h; omega
    · omega
  refine r1_Put s2.arr (by omega) fun w3 v3 G3 s3 g3 f3 => ?_
  have hl2 : (putS (bs.take (bs.length - 4))).length = bs.length := by rw [putS_len, hl]; omega
  refine r1_Same s3.arr ((hb.fr f02 (by simp)).fr f3 (by simp)).arr (by omega) fun w4 f4 => ?_
  have f04 := (f02.trans' f3).trans' f4
  have iff_ : putS (bs.take (bs.length - 4)) = bs ↔ bs.drop (bs.length - 4) = four (crcOf (bs.take (bs.length - 4))) := by
    unfold putS
    constructor
    · intro h
      have := congrArg (List.drop (bs.length - 4)) h
      rw [List.drop_append_of_le_length (by omega), List.drop_of_length_le (by omega), List.nil_append] at this
      exact this.symm
    · intro h
      rw [← h]
      exact List.take_append_drop _ _
  by_cases he : bs.drop (bs.length - 4) = four (crcOf (bs.take (bs.length - 4)))
  · rw [decide_eq_true (iff_.2 he)]
    rw [if_pos he] at hR
    (repeat refine gg ?_)
    exact hR _ _ G2 _ rfl ((s2.fr f3 (by simp)).fr f4 (by simp)) g2' f04
  · rw [decide_eq_false (fun h => he (iff_.1 h))]
    rw [if_neg he] at hR0
    (repeat refine gg ?_)
    exact hR0 _ f04 rfl
end
end Go.Proofs.YtmefbneoljpbgaaGreatDoor
