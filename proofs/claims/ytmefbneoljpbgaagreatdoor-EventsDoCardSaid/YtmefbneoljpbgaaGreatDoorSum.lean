
/- Sums of bytes, walked. No condition but sizes. -/
import Derived.Test.YtmefbneoljpbgaaGreatDoorCrc
import Derived.Test.YtmefbneoljpbgaaGreatDoorGd
import Derived.Test.YtmefbneoljpbgaaGreatDoorMa
namespace Go.Proofs.YtmefbneoljpbgaaGreatDoor
open Go.Den Go.Disk Go.Crc
theorem iterC_succ (n : Nat) (s : BitVec 32) : iterC (n + 1) s = stepC (iterC n s) := rfl
theorem step_odd {s : BitVec 32} (h : ((s &&& 1#32).toNat : Int) = 1) : stepC s = (s >>> 1) ^^^ poly := by
  have h2 : s &&& 1#32 = 1#32 := by apply BitVec.eq_of_toNat_eq; simpa using (by exact_mod_cast h : (s &&& 1#32).toNat = 1)
  unfold stepC; rw [if_pos h2]
theorem step_even {s : BitVec 32} (h : ¬ ((s &&& 1#32).toNat : Int) = 1) : stepC s = s >>> 1 := by
  unfold stepC; rw [if_neg (fun e => h (by rw [e]; rfl))]
/-- the table, filled up to i. -/
def tabI (i : Nat) : List Value := (List.range 256).map fun j => .int .u32 (if j < i then ((ent (BitVec.ofNat 32 j)).toNat : Int) else 0)
theorem tabI_len (i : Nat) : (tabI i).length = 256 := by simp [tabI]
theorem tabI_zero : tabI 0 = List.replicate 256 (Value.int .u32 0) := by
  apply List.ext_getElem (by rw [tabI_len, List.length_replicate])
  intro n h1 h2
  simp only [tabI, List.getElem_map, List.getElem_range, List.getElem_replicate]
  rw [if_neg (by omega)]
theorem tabI_set {i : Nat} (_ : i < 256) : (tabI i).set i (.int .u32 ((ent (BitVec.ofNat 32 i)).toNat : Int)) = tabI (i + 1) := by
  apply List.ext_getElem (by rw [List.length_set, tabI_len, tabI_len])
  intro n h1 h2
  rw [List.getElem_set]
  by_cases e : i = n
  · subst e; simp [tabI]
  · simp only [e, if_false, tabI, List.getElem_map, List.getElem_range]
    congr 1
    by_cases hn : n < i
    · rw [if_pos hn, if_pos (by omega)]
    · rw [if_neg hn, if_neg (by omega)]
theorem tab_at {n : Nat} (h : n < 256) : (tabI 256)[n]? = some (.int .u32 ((ent (BitVec.ofNat 32 n)).toNat : Int)) := by
  simp [tabI, h]
theorem iaddra_at {len i b : Nat} {k : IntKind} (h : i < len) : iaddra len 1 (.pointer (some ⟨b, 0, none⟩)) (.int k (i : Int)) = some (.pointer (some ⟨b, i, none⟩)) := by
  simp only [iaddra]
  rw [if_pos ⟨by omega, by omega⟩]
  simp [add_none]
theorem conv_u32 {i : Nat} (h : i < 4294967296) : convi .u32 (.int .i64 (i : Int)) = some (.int .u32 ((BitVec.ofNat 32 i).toNat : Int)) := by
  simp only [convi]
  rw [wrap_u32 h]
  congr 2
  simp; omega
theorem loadn_all' {w : World} {b n : Nat} {c : List Value} {T : Nat} {f : Nat × Nat} (h : blk w b = some (.cells c.toArray T f)) (hn : c.length = n) : loadn n w (.pointer (some ⟨b, 0, none⟩)) = some (.agg c.toArray) := by
  subst hn
  rw [loadn_blk h (by simp)]
  simp
theorem tab_one : ∀ u ∈ tabI 256, u.oneCell' = true := by
  intro u hu
  obtain ⟨j, _, rfl⟩ := List.mem_map.1 hu
  rfl
set_option linter.unusedSimpArgs false
set_option linter.unusedVariables false
set_option maxRecDepth 20000
set_option maxHeartbeats 4000000
attribute [local congr] BND_cg COND_cg GEF_cg
attribute [local irreducible] capl slicea load1 loadn iaddr iaddra faddr storev newslice binv lookv mupd mdel mlenv mentry mestore slicev slicev3 slices indexs indexav textv rangev nexts clearv shiftv eqaggv convi buildv pickv lens lenl unv nilchk extractv partn JOIN
section
variable {w : World} {R : Value → World → Prop}
theorem sum_entry (n : BitVec 32) (hR : R (.int .u32 ((ent n).toNat : Int)) w) : CALL PR F_sum_entry [.int .u32 (n.toNat : Int)] w R := by
  refine C_sum_entry ?_
  unfold M_sum_entry
  refine loop_up2 (o := .int .u32 (n.toNat : Int)) 0 8 (fun o i w' => o = .int .u32 ((iterC i n).toNat : Int) ∧ w' = w) ⟨rfl, rfl⟩ (by omega) ?_
  rintro o i w1 - hi ⟨rfl, rfl⟩ J m hJ
  by_cases hlt : i < 8
  · have e1 := and32 (iterC i n) 1#32
    have e2 := shr32 (iterC i n) 1 (by omega)
    have e3 := xor32 (iterC i n >>> 1) poly
    (repeat refine gg ?_)
    by_cases hq : ((iterC i n &&& 1#32).toNat : Int) = 1
    · refine join_v (Q := fun v w' => v = .int .u32 ((iterC (i + 1) n).toNat : Int) ∧ w' = w1) (fun k hk => ?_) ?_
      · (repeat refine gg ?_)
        exact hk _ _ ⟨by rw [iterC_succ, step_odd hq], rfl⟩
      · rintro _ _ ⟨rfl, rfl⟩
        (repeat refine gg ?_)
        exact hJ _ _ hlt ⟨rfl, rfl⟩
    · refine join_v (Q := fun v w' => v = .int .u32 ((iterC (i + 1) n).toNat : Int) ∧ w' = w1) (fun k hk => ?_) ?_
      · (repeat refine gg ?_)
        exact hk _ _ ⟨by rw [iterC_succ, step_even hq], rfl⟩
      · rintro _ _ ⟨rfl, rfl⟩
        (repeat refine gg ?_)
        exact hJ _ _ hlt ⟨rfl, rfl⟩
  · obtain rfl : i = 8 := by omega
    (repeat refine gg ?_)
    exact hR
theorem sum_Table (hR : ∀ w', Fr [] w w' → R (.agg (tabI 256).toArray) w') : CALL PR F_sum_Table [] w R := by
  refine C_sum_Table ?_
  unfold M_sum_Table
  refine NEW_intro fun w1 b1 f1 z1 => ?_
  refine NEW_intro fun w2 b2 f2 z2 => ?_
  have b1' := f2.some (by simp) b1
  replace b2 : blk w2 (hsz w1) = some (.cells (tabI 0).toArray 213 (0, 0)) := by rw [tabI_zero]; exact b2
  refine loop_up 0 256 (fun i w' => blk w' (hsz w1) = some (.cells (tabI i).toArray 213 (0, 0)) ∧ Fr [hsz w1] w2 w') ⟨b2, Fr.refl _ _⟩ (by omega) ?_
  rintro i w3 - hi ⟨b3, f3⟩ J m hJ
  by_cases hlt : i < 256
  · have e1 := conv_u32 (i := i) (by omega)
    have e2 := iaddra_at (b := hsz w1) (k := .i64) hlt
    (repeat refine gg ?_)
    refine sum_entry _ ?_
    (repeat refine gg ?_)
    refine fstore_step b3 ⟨rfl, rfl⟩ (by rw [tabI_len]; exact hlt) fun w5 b5 f5 _ => ?_
    rw [tabI_set hlt] at b5
    (repeat refine gg ?_)
    exact hJ _ hlt ⟨b5, f3.trans' f5⟩
  · obtain rfl : i = 256 := by omega
    have b1'' := f3.some (by simp; omega) b1'
    (repeat (first | refine BND_step (loadn_all' b3 (tabI_len 256)) ?_ | refine gg ?_))
    refine put_step (n := 256) (vs := tabI 256) b1'' (by simp [Value.cells]) (tabI_len 256) tab_one (by intro e; have := tabI_len 256; rw [e] at this; simp at this) fun w6 b6 f6 _ => ?_
    (repeat (first | refine BND_step (loadn_all' b6 (tabI_len 256)) ?_ | refine gg ?_))
    exact hR _ ((f1.trans (f2.nil.trans' f3) (by simp; omega)).trans f6 (by simp))
theorem sum_More {bv : Value} {bs : List UInt8} (s : BitVec 32) (hb : Arr encB 1 w bv bs) (hn : bs.length < 1000000000) (hR : ∀ w', Fr [] w w' → R (.int .u32 ((~~~ crcU (~~~ s) bs).toNat : Int)) w') : CALL PR F_sum_More [.int .u32 (s.toNat : Int), bv] w R := by
  refine C_sum_More ?_
  unfold M_sum_More
  refine sum_Table fun w1 f1 => ?_
  refine box_step (n := 256) (vs := tabI 256) (by simp) (tabI_len 256) tab_one (by intro e; have := tabI_len 256; rw [e] at this; simp at this) fun w3 b3 f3 z3 => ?_
  have f13 := f1.trans' f3
  (repeat (first | refine BND_step (not32 s) ?_ | refine BND_step hb.len ?_ | refine gg ?_))
  refine loop_up2 (o := .int .u32 ((~~~ s).toNat : Int)) 0 bs.length (fun o i w' => o = .int .u32 ((crcU (~~~ s) (bs.take i)).toNat : Int) ∧ w' = w3) ⟨rfl, rfl⟩ (by omega) ?_
  rintro o i w4 - hi ⟨rfl, rfl⟩ J m hJ
  by_cases hlt : i < bs.length
  · have hx := List.getElem?_eq_getElem hlt
    generalize bs[i] = x at hx
    obtain ⟨b, o, ia, _, _, l1⟩ := (hb.fr f13 (by simp)).spot hx rfl .i64
    have hst : crcU (~~~ s) (bs.take (i + 1)) = byteC (crcU (~~~ s) (bs.take i)) x := by
      unfold crcU
      rw [List.take_add_one, hx, List.foldl_append]; rfl
    generalize crcU (~~~ s) (bs.take i) = q at hst hJ
    have e1 := shr32 q 8 (by omega)
    have e2 := conv8 q
    have e3 := xor8 (low8 q) x
    have hlt2 : ((low8 q).toBitVec ^^^ x.toBitVec).toNat < 256 := BitVec.isLt _
    have e4 := iaddra_at (b := hsz w1) (k := .u8) hlt2
    have e5 := load1_at b3 (tab_at hlt2)
    have e6 := xor32 (q >>> 8) (ent (BitVec.ofNat 32 ((low8 q).toBitVec ^^^ x.toBitVec).toNat))
    have hq : (q >>> 8) ^^^ ent (BitVec.ofNat 32 ((low8 q).toBitVec ^^^ x.toBitVec).toNat) = byteC q x := by
      unfold byteC
      congr 2
      apply BitVec.eq_of_toNat_eq
      simp [idxC, low8]
    rw [hq, ← hst] at e6
    (repeat (first | (apply BND_step; exact (l1 (w' := w4) rfl (j := 0) rfl)) | refine gg ?_))
    exact hJ _ _ hlt ⟨rfl, rfl⟩
  · rw [List.take_of_length_le (by omega)]
    (repeat (first | refine BND_step (not32 _) ?_ | refine gg ?_))
    exact hR _ f13
theorem sum_Of {bv : Value} {bs : List UInt8} (hb : Arr encB 1 w bv bs) (hn : bs.length < 1000000000) (hR : ∀ w', Fr [] w w' → R (.int .u32 ((crcOf bs).toNat : Int)) w') : CALL PR F_sum_Of [bv] w R := by
  refine C_sum_Of ?_
  unfold M_sum_Of
  exact sum_More 0#32 hb hn hR
theorem sum_four (n : BitVec 32) (hR : ∀ w' v G, Slc encB 1 w' v (four n) G → (∀ b ∈ G, hsz w ≤ b) → Fr [] w w' → R v w') : CALL PR F_sum_four [.int .u32 (n.toNat : Int)] w R := by
  refine C_sum_four ?_
  unfold M_sum_four
  (repeat (first | refine BND_step (conv8 n) ?_ | refine BND_step (shr32 n 8 (by omega)) ?_ | refine BND_step (conv8 _) ?_ | refine BND_step (shr32 n 16 (by omega)) ?_ | refine BND_step (shr32 n 24 (by omega)) ?_ | refine gg ?_))
  refine newparts_step encB_len (val := fun x : UInt8 => Value.int .u8 (x.toNat : Int)) (fun _ => rfl) (four n) rfl rfl fun t w1 s1 f1 z1 => ?_
  (repeat refine gg ?_)
  exact hR _ _ _ s1 (by simp) f1
end
end Go.Proofs.YtmefbneoljpbgaaGreatDoor
