
/- Records read, walked. No condition but sizes. -/
import Derived.Test.YtmefbneoljpbgaaGreatDoorRec
namespace Go.Proofs.YtmefbneoljpbgaaGreatDoor
open Go.Den Go.Disk Go.Vint Go.Crc Go.Frame Go.Rec
/-- records in memory: the row, and each one's numbers. -/
def RecL (w : World) (v : Value) (xs : List Rc) (G B : List Nat) : Prop :=
  (∃ cs : List (Int × SV × ByteArray), Slc encRc 3 w v cs G ∧ cs.length = xs.length ∧ ∀ (i : Nat) (x : Rc), xs[i]? = some x → ∃ (s : SV) (H : List Nat), cs[i]? = some ((x.kind : Int), s, txB x.text) ∧ Slc encU 1 w s.v x.n H ∧ ∀ b ∈ H, b ∈ B) ∧ ∀ b ∈ B, b ∉ G ∧ b < hsz w
theorem RecL.fr {w w' : World} {v : Value} {xs : List Rc} {G B : List Nat} (h : RecL w v xs G B) (f : Fr [] w w') : RecL w' v xs G B := by
  obtain ⟨⟨cs, h1, h2, h3⟩, h4⟩ := h
  exact ⟨⟨cs, h1.fr f (by simp), h2, fun i x hx => by obtain ⟨s, H, a, b, c⟩ := h3 i x hx; exact ⟨s, H, a, b.fr f (by simp), c⟩⟩, fun b hb => ⟨(h4 b hb).1, Nat.lt_of_lt_of_le (h4 b hb).2 f.grow⟩⟩
/-- what changes lies apart. -/
theorem RecL.far {w w' : World} {v : Value} {xs : List Rc} {G B F : List Nat} (h : RecL w v xs G B) (f : Fr F w w') (hG : ∀ b ∈ G, b ∉ F) (hB : ∀ b ∈ B, b ∉ F) : RecL w' v xs G B := by
  obtain ⟨⟨cs, h1, h2, h3⟩, h4⟩ := h
  exact ⟨⟨cs, h1.fr f hG, h2, fun i x hx => by obtain ⟨s, H, a, b, c⟩ := h3 i x hx; exact ⟨s, H, a, b.fr f fun d hd => hB d (c d hd), c⟩⟩, fun b hb => ⟨(h4 b hb).1, Nat.lt_of_lt_of_le (h4 b hb).2 f.grow⟩⟩
theorem RecL.len {w : World} {v : Value} {xs : List Rc} {G B : List Nat} (h : RecL w v xs G B) : lenl v = some (.int .i64 xs.length) := by
  obtain ⟨⟨cs, h1, h2, _⟩, _⟩ := h
  rw [h1.len, h2]
theorem RecL.nil (w : World) : RecL w (.slice none 0 0) [] [] [] := ⟨⟨[], Slc.nil _ _ _, rfl, by simp⟩, by simp⟩
theorem RecL.lt {w : World} {v : Value} {xs : List Rc} {G B : List Nat} (h : RecL w v xs G B) : ∀ b ∈ G, b < hsz w := by
  obtain ⟨⟨cs, h1, _⟩, _⟩ := h
  exact h1.lt
theorem getV_used {b : List UInt8} (h : (getV b).2.2 = 0) : (getV b).2.1 ≤ b.length := by
  have := getL_used b 0 0 h
  unfold getV; omega
theorem getV_small (b : List UInt8) : (getV b).1 < 18446744073709551616 := getL_small b 0 0 (by simp) (by omega)
theorem readN_step (m : Nat) (b : List UInt8) : readN (m + 1) b = if (getV b).2.2 = 0 then ((getV b).1 :: (readN m (b.drop (getV b).2.1)).1, (readN m (b.drop (getV b).2.1)).2) else ([], [], (getV b).2.2) := rfl
set_option linter.unusedSimpArgs false
set_option linter.unusedVariables false
set_option maxRecDepth 20000
set_option maxHeartbeats 4000000
attribute [local congr] BND_cg COND_cg GEF_cg
attribute [local irreducible] capl slicea load1 loadn iaddr iaddra faddr storev newslice binv lookv mupd mdel mlenv mentry mestore slicev slicev3 slices indexs indexav textv rangev nexts clearv shiftv eqaggv convi buildv pickv lens lenl unv nilchk extractv partn JOIN
section
variable {w : World} {R : Value → World → Prop}
theorem rec_Read {s0 : SV} {x : Fra} (hb : ArrC encB 1 w s0.v x.2) (hn : x.2.length < 1000000)
    (hR : ∀ w' nv G, Slc encU 1 w' (SV.v nv) (recRead x).1.n G → (∀ b ∈ G, hsz w ≤ b) → Fr [] w w' → R (.tuple #[.agg (encRc (((recRead x).1.kind : Int), nv, txB (recRead x).1.text)).toArray, .int .i64 (recRead x).2]) w') : CALL PR F_record_Read [.agg (encFr (x.1, s0)).toArray] w R := by
  refine C_record_Read ?_
  unfold M_record_Read
  refine NEW_intro fun w1 b1 f1 z1 => ?_
  replace b1 : blk w1 (hsz w) = some (.cells (encFr (x.1, s0)).toArray 138 (0, 0)) := b1
  refine NEW_intro fun w2 b2 f2 z2 => ?_
  replace b2 : blk w2 (hsz w1) = some (.cells [Value.int .i64 0, .slice none 0 0, .string .empty].toArray 86 (0, 0)) := b2
  have hkl := x.1.toNat_lt
  have b1' := f2.some (by simp) b1
  have ec := convi64 (k := .u8) (x := x.1.toNat) (by omega)
  (repeat (first | refine gg ?_ | (apply BND_build ([.int .i64 (x.1.toNat : Int), .slice none 0 0, .string .empty]); exact rfl)))
  refine box_step (n := 3) (zs := [_, _, _]) (vs := encRc ((x.1.toNat : Int), ⟨none, 0, 0⟩, .empty)) rfl rfl (encRc_one _) (by simp [encRc]) fun w4 b4 f4 z4 => ?_
  have b1'' := f4.some (by simp) b1'
  have b2' := f4.some (by simp) b2
  have f04 := (f1.trans' f2).trans' f4
  -- what comes of an error
  have bad : ∀ (w6 : World) (e : Int), Fr [] w w6 → blk w6 (hsz w1) = some (.cells [Value.int .i64 0, .slice none 0 0, .string .empty].toArray 86 (0, 0)) → recRead x = (zeroR, e) →
      (BND (buildv #[(Value.int .i64 0), (Value.slice none 0 0), (Value.string ByteArray.empty)] []) fun t => BND (storev 3 w6 (.pointer (some ⟨hsz w1, 0, none⟩)) t) fun w7 => BND (loadn 3 w7 (.pointer (some ⟨hsz w1, 0, none⟩))) fun r => R (.tuple #[r, (Value.int .i64 e)]) w7) := by
    intro w6 e f6 b6 he
    rw [he] at hR
    (repeat (first | refine gg ?_ | (apply BND_build ([.int .i64 0, .slice none 0 0, .string .empty]); exact rfl)))
    refine put_step (n := 3) (vs := [.int .i64 0, .slice none 0 0, .string .empty]) b6 rfl rfl (by intro u hu; simp at hu; rcases hu with rfl | rfl | rfl <;> rfl) (by simp) fun w7 b7 f7 _ => ?_
    (repeat (first | refine BND_step (loadn_all' b7 rfl) ?_ | refine gg ?_))
    exact hR w7 ⟨none, 0, 0⟩ [] (Slc.nil _ _ _) (by simp) (f6.trans f7 fun b hb => .inr (by have := f1.grow; simp at hb; omega))
  (repeat refine gg ?_)
  refine rec_known _ ?_
  unfold recRead at hR
  cases hk : knownB (x.1.toNat : Int) with
  | false =>
    (repeat refine gg ?_)
    exact bad w4 2 f04 b2' (by unfold recRead; rw [if_pos hk])
  | true =>
    have hkn : ¬ knownB (x.1.toNat : Int) = false := by rw [hk]; simp
    rw [if_neg hkn] at hR
    obtain ⟨hk1, hk2⟩ : 1 ≤ (x.1.toNat : Int) ∧ (x.1.toNat : Int) ≤ 17 := by unfold knownB at hk; simpa using hk
    have b4d : blk w4.drew (hsz w2) = some (.cells (encRc ((x.1.toNat : Int), ⟨none, 0, 0⟩, .empty)).toArray 86 (0, 0)) := b4
    (repeat refine gg ?_)
    refine ⟨fun _ w' => blk w' (hsz w2) = some (.cells (encRc ((x.1.toNat : Int), ⟨none, 0, 0⟩, .empty)).toArray 86 (0, 0)), b4d, ?_⟩
    (repeat refine gg ?_)
    refine rec_numbers fun w7 f7 => ?_
    have b7 := f7.some (by simp) b4d
    refine ⟨b7, ?_⟩
    (repeat (first | refine BND_step (many_at (k := x.1.toNat) (by omega)) ?_ | refine gg ?_))
    have f07 := (f04.trans' (Fr.drew [] w4)).trans' f7
    have b27 : blk w7 (hsz w1) = _ := f7.some (by simp) (show blk w4.drew (hsz w1) = _ from b2')
    have h10 := manyOf_le x.1.toNat
    generalize hmany : manyOf x.1.toNat = many at *
    refine loop_up2 (o := s0.v) 0 many (fun o i w' => ∃ (done : List Nat) (rest : List UInt8) (nv : SV) (G : List Nat), ArrC encB 1 w o rest ∧ rest.length ≤ x.2.length ∧ blk w' (hsz w2) = some (.cells (encRc ((x.1.toNat : Int), nv, .empty)).toArray 86 (0, 0)) ∧ Slc encU 1 w' nv.v done G ∧ (∀ b ∈ G, hsz w7 ≤ b) ∧
        Fr [] w w' ∧ hsz w7 ≤ hsz w' ∧ blk w' (hsz w1) = some (.cells [Value.int .i64 0, .slice none 0 0, .string .empty].toArray 86 (0, 0)) ∧ done.length = i ∧ readN many x.2 = (done ++ (readN (many - i) rest).1, (readN (many - i) rest).2))
      ⟨[], x.2, ⟨none, 0, 0⟩, [], hb, Nat.le_refl _, b7, Slc.nil _ _ _, by simp, f07, Nat.le_refl _, b27, rfl, by simp⟩ (by omega) ?_
    rintro o i w8 - hi ⟨done, rest, nv, G, a0, hrl, b8, s8, g8, f8, gr8, b28, hdl, heq⟩ J m hJ
    have a8 := a0.fr f8 (by simp)
    by_cases hlt : i < many
    · obtain ⟨mm, hmm⟩ : ∃ mm, many - i = mm + 1 := ⟨many - i - 1, by omega⟩
      rw [hmm, readN_step] at heq
      (repeat refine gg ?_)
      refine vint_Get a8.arr (by omega) ?_
      (repeat refine gg ?_)
      by_cases he : (getV rest).2.2 = 0
      · rw [if_pos he] at heq
        have hu := getV_used he
        obtain ⟨va, ea, aa⟩ := a0.from (lo := (getV rest).2.1) hu
        have b8d : blk w8.drew (hsz w2) = some (.cells (encRc ((x.1.toNat : Int), nv, .empty)).toArray 86 (0, 0)) := b8
        (repeat refine gg ?_)
        refine ⟨fun _ w' => blk w' (hsz w2) = some (.cells (encRc ((x.1.toNat : Int), nv, .empty)).toArray 86 (0, 0)), b8d, ?_⟩
        (repeat refine gg ?_)
        refine newone_step (enc := encU) (x := (getV rest).1) encU_len rfl fun t w11 s11 f11 z11 => ?_
        have b11 := f11.some (by simp) b8d
        refine ⟨b11, ?_⟩
        have f811 := (Fr.drew [] w8).trans' f11
        have ew8 : hsz w8.drew = hsz w8 := rfl
        refine APPEND_slc (s8.fr f811 (by simp)) (s11.loads encU_len) encU_len encU_one rfl (by simp; omega) (by simp; omega) fun v12 w12 G12 s12 f12 sub12 => ?_
        obtain ⟨x12, rfl⟩ := slc_sv s12
        have hw2 : hsz w2 < hsz w7 := by have := blk_lt b4; have := f7.grow; have e : hsz w4.drew = hsz w4 := rfl; omega
        have hw1 : hsz w1 < hsz w2 := by omega
        have b12 := f12.some (fun hb => by have := g8 _ hb; omega) b11
        (repeat refine gg ?_)
        refine fstore_step b12 ⟨rfl, rfl⟩ (by simp [encRc]) fun w13 b13 f13 _ => ?_
        (repeat refine gg ?_)
        have f812 : Fr [] w w12 := (f8.trans' f811).trans f12 fun b hb => .inr (by have := g8 b hb; have := f07.grow; omega)
        have f813 : Fr [] w w13 := f812.trans f13 fun b hb => .inr (by simp at hb; have := (f1.trans' f2).grow; omega)
        have g12 : ∀ b ∈ G12, hsz w7 ≤ b := fun b hb => by
          rcases sub12 b hb with hq | hq
          · exact g8 b hq
          · have := f811.grow; omega
        refine hJ _ _ hlt ⟨done ++ [(getV rest).1], rest.drop (getV rest).2.1, x12, G12, aa, ?_, b13, s12.fr f13 (fun b hb hb' => ?_), g12, f813, ?_, ?_, by simp [hdl], ?_⟩
        · rw [List.length_drop]; omega
        · have := g12 b hb; simp at hb'; omega
        · have := (f811.grow); have := f12.grow; have := f13.grow; omega
        · have q1 := f11.some (by simp) (show blk w8.drew (hsz w1) = _ from b28)
          have q2 := f12.some (fun hb => by have := g8 _ hb; omega) q1
          exact f13.some (by simp; omega) q2
        · rw [show many - (i + 1) = mm by omega, heq]; simp
      · rw [if_neg he] at heq
        (repeat refine gg ?_)
        refine bad w8 _ f8 b28 ?_
        unfold recRead
        rw [if_neg hkn, hmany, heq, if_neg he]
    · rw [show many - i = 0 by omega] at heq
      simp only [readN, List.append_nil] at heq
      rw [heq] at hR
      simp only [if_true] at hR
      have hrw : recRead x = if fitsB (x.1.toNat : Int) rest.length = true then (⟨x.1.toNat, done, rest⟩, 0) else (zeroR, 2) := by
        unfold recRead
        rw [if_neg hkn, hmany, heq]
        rfl
      (repeat (first | refine BND_step a8.len ?_ | refine gg ?_))
      refine rec_fits _ _ ?_
      cases hf : fitsB (x.1.toNat : Int) rest.length with
      | false =>
        rw [hf] at hrw
        (repeat refine gg ?_)
        exact bad w8 2 f8 b28 hrw
      | true =>
        rw [hf] at hR
        simp only [if_true] at hR
        have hw2 : hsz w2 < hsz w7 := by have := blk_lt b4; have := f7.grow; have e : hsz w4.drew = hsz w4 := rfl; omega
        (repeat (first | refine BND_step (textB a8.arr) ?_ | refine gg ?_))
        refine fstore_step b8 ⟨rfl, rfl⟩ (by simp [encRc]) fun w9 b9 f9 _ => ?_
        replace b9 : blk w9 (hsz w2) = some (.cells (encRc ((x.1.toNat : Int), nv, txB rest)).toArray 86 (0, 0)) := b9
        have b29 := f9.some (by simp; omega) b28
        (repeat (first | refine BND_step (loadn_all' b9 rfl) ?_ | refine gg ?_))
        refine put_step (n := 3) (vs := encRc ((x.1.toNat : Int), nv, txB rest)) b29 rfl rfl (encRc_one _) (by simp [encRc]) fun w10 b10 f10 _ => ?_
        (repeat (first | refine BND_step (loadn_all' b10 rfl) ?_ | refine gg ?_))
        have gg := (f1.trans' f2).grow
        have gg1 := f1.grow
        exact hR w10 nv G ((s8.fr f9 (fun b hb hb' => by have := g8 b hb; simp at hb'; omega)).fr f10 (fun b hb hb' => by have := g8 b hb; simp at hb'; omega)) (fun b hb => by have := g8 b hb; have := f07.grow; omega)
          ((f8.trans f9 fun b hb => .inr (by simp at hb; omega)).trans f10 fun b hb => .inr (by simp at hb; omega))
theorem rec_push {E E' bytes : Nat} {zero : Array Value} {zero' : Value} {k : Value → World → Prop} {o : Value} {xs : List Rc} {G B H : List Nat} {s : SV} {x : Rc} (h : RecL w o xs G B) (hs : Slc encU 1 w s.v x.n H) (hH : ∀ b ∈ H, b ∉ G) (hz : zero'.cells.size = 3) (hb : bytes ≤ 1000) (hn : xs.length < 1000000000)
    (K : ∀ v' w' G', RecL w' v' (xs ++ [x]) G' (H ++ B) → (∀ b ∈ G', b ∈ G ∨ hsz w ≤ b) → Fr G w w' → k v' w') : BND (newslice E zero 3 1 [(0, 3, .agg (encRc ((x.kind : Int), s, txB x.text)).toArray)] w) fun p_ => NEW p_ fun t w1 => APPEND E' 3 bytes zero' o t w1 k := by
  obtain ⟨⟨cs, h1, h2, h3⟩, h4⟩ := h
  refine push_step (enc := encRc) (x := ((x.kind : Int), s, txB x.text)) h1 encRc_len encRc_one rfl hz hb (by omega) fun v' w' G' s' g' f' => ?_
  refine K v' w' G' ⟨⟨cs ++ [((x.kind : Int), s, txB x.text)], s', by simp [h2], fun i y hy => ?_⟩, fun b hb => ?_⟩ g' f'
  · by_cases hi : i < xs.length
    · rw [List.getElem?_append_left hi] at hy
      obtain ⟨s2, H2, a, b, c⟩ := h3 i y hy
      exact ⟨s2, H2, by rw [List.getElem?_append_left (by omega)]; exact a, b.fr f' (fun d hd => (h4 d (c d hd)).1), fun d hd => by simp [c d hd]⟩
    · have : i = xs.length := by have := (List.getElem?_eq_some_iff.1 hy).1; simp at this; omega
      subst this
      simp at hy; subst hy
      exact ⟨s, H, by rw [List.getElem?_append_right (by omega)]; simp [h2], hs.fr f' hH, fun d hd => by simp [hd]⟩
  · have hlt : b < hsz w := by
      rcases List.mem_append.1 hb with hb | hb
      · exact hs.lt b hb
      · exact (h4 b hb).2
    refine ⟨?_, Nat.lt_of_lt_of_le hlt f'.grow⟩
    intro hb'
    rcases g' b hb' with hq | hq
    · rcases List.mem_append.1 hb with hb | hb
      · exact hH b hb hq
      · exact (h4 b hb).1 hq
    · omega
theorem recAllF_cons (x : Fra) (r : List Fra) (k : Nat) (e : Int) : recAllF (x :: r) k e = if (recRead x).2 = 0 then ((recRead x).1 :: (recAllF r (k + (11 + x.2.length)) e).1, (k + (11 + x.2.length)) :: (recAllF r (k + (11 + x.2.length)) e).2.1, (recAllF r (k + (11 + x.2.length)) e).2.2) else ([], [], (recRead x).2) := rfl
theorem loop_up4 {B : (Value → Value → Value → Value → World → Prop) → (Value → Value → Value → Value → World → Nat) → Value → Value → Value → Value → World → Prop} {w : World} {a b c : Value} (s n : Nat) (I : Value → Value → Value → Nat → World → Prop) (h0 : I a b c s w) (hs : s ≤ n)
    (h : ∀ a b c i w1, s ≤ i → i ≤ n → I a b c i w1 → ∀ J m, (∀ a' b' c' w', i < n → I a' b' c' (i + 1) w' → J a' b' c' (.int .i64 ((i + 1 : Nat) : Int)) w' ∧ m a' b' c' (.int .i64 ((i + 1 : Nat) : Int)) w' < m a b c (.int .i64 (i : Int)) w1) → B J m a b c (.int .i64 (i : Int)) w1) :
    ∃ (J : Value → Value → Value → Value → World → Prop) (m : Value → Value → Value → Value → World → Nat), J a b c (.int .i64 (s : Int)) w ∧ ∀ (_d : Env) (a b c t : Value) (w1 : World), J a b c t w1 → B J m a b c t w1 := by
  refine ⟨fun a b c t w' => ∃ i : Nat, t = .int .i64 i ∧ s ≤ i ∧ i ≤ n ∧ I a b c i w', fun _ _ _ t _ => match t with | .int _ k => n - k.toNat | _ => 0, ⟨s, rfl, Nat.le_refl _, hs, h0⟩, ?_⟩
  rintro _ a b c _ w1 ⟨i, rfl, h1, h2, h3⟩
  exact h a b c i w1 h1 h2 h3 _ _ fun a' b' c' w' h4 h5 => ⟨⟨i + 1, rfl, by omega, by omega, h5⟩, by simp; omega⟩
theorem rec_All {bv : Value} {bs : List UInt8} (hb : ArrC encB 1 w bv bs) (hn : bs.length < 10000000)
    (hR : ∀ w' v ev G B E, RecL w' v (recAll bs).1 G B → Slc encO 1 w' ev (recAll bs).2.1 E → (∀ b ∈ G, hsz w ≤ b) → (∀ b ∈ B, hsz w ≤ b) → (∀ b ∈ E, hsz w ≤ b) → Fr [] w w' → R (.tuple #[v, ev, .int .i64 (recAll bs).2.2]) w') : CALL PR F_record_All [bv] w R := by
  refine C_record_All ?_
  unfold M_record_All
  refine frame_All hb (by omega) fun w1 lv G1 B1 h1 gG1 gB1 f1 hle => ?_
  have hsm := frAll_small bs.length bs 0 rfl
  unfold recAll at hR
  generalize hfs : (frAll bs 0).1 = fs at *
  generalize (frAll bs 0).2.2 = e0 at *
  (repeat (first | refine BND_step h1.len ?_ | refine gg ?_))
  refine loop_up4 (a := .slice none 0 0) (b := .slice none 0 0) (c := .int .i64 0) 0 fs.length (fun o ev t i w' => ∃ (k : Nat) (done : List Rc) (ends : List Nat) (G B E : List Nat), t = .int .i64 (k : Int) ∧ RecL w' o done G B ∧ Slc encO 1 w' ev ends E ∧ (∀ b ∈ G, hsz w1 ≤ b ∧ b ∉ E) ∧ (∀ b ∈ B, hsz w1 ≤ b ∧ b ∉ E) ∧ (∀ b ∈ E, hsz w1 ≤ b) ∧
      Fr [] w1 w' ∧ k ≤ i * 500 ∧ done.length = i ∧ ends.length = i ∧ recAllF fs 0 e0 = (done ++ (recAllF (fs.drop i) k e0).1, ends ++ (recAllF (fs.drop i) k e0).2.1, (recAllF (fs.drop i) k e0).2.2))
    ⟨0, [], [], [], [], [], rfl, RecL.nil _, Slc.nil _ _ _, by simp, by simp, by simp, Fr.refl _ _, by omega, rfl, rfl, by simp⟩ (by omega) ?_
  rintro o ev _ i w2 - hi ⟨k, done, ends, G, B, E, rfl, h2, se, gG, gB, gE, f2, hk, hdl, hel, heq⟩ J m hJ
  by_cases hlt : i < fs.length
  · have hx := List.getElem?_eq_getElem hlt
    have hm := List.getElem_mem hlt
    have hdr : fs.drop i = fs[i] :: fs.drop (i + 1) := List.drop_eq_getElem_cons hlt
    generalize fs[i] = x at hx hm hdr
    have hx4 := hsm x hm
    rw [hdr, recAllF_cons] at heq
    obtain ⟨⟨cs, q1, q2, q3⟩, q4⟩ := h1.fr f2
    obtain ⟨s, H, c1, c2, c3⟩ := q3 i x hx
    obtain ⟨bp, op, ia, ln, _, _⟩ := q1.arr.spot c1 rfl .i64
    (repeat refine gg ?_)
    refine box_step (n := 2) (zs := [_, _]) (vs := encFr (x.1, s)) rfl rfl (encFr_one _) (by simp [encFr]) fun w4 b4 f4 z4 => ?_
    (repeat (first | refine BND_step (loadn_all' b4 rfl) ?_ | refine gg ?_))
    have c24 := c2.fr f4 (by simp)
    refine rec_Read c24.arrC (by omega) fun w5 nv Gn sn gn f5 => ?_
    have b5 := f5.some (by simp) b4
    (repeat refine gg ?_)
    refine box_step (n := 3) (zs := [_, _, _]) (vs := encRc (((recRead x).1.kind : Int), nv, txB (recRead x).1.text)) rfl rfl (encRc_one _) (by simp [encRc]) fun w7 b7 f7 z7 => ?_
    have b57 := f7.some (by simp) b5
    have f27 := (f4.trans' f5).trans' f7
    have f17 := f2.trans' f27
    by_cases he : (recRead x).2 = 0
    · rw [if_pos he] at heq
      (repeat (first | refine BND_step (loadn_all' b57 rfl) ?_ | refine gg ?_))
      refine frame_Bytes (body := x.2) ((c24.fr f5 (by simp)).fr f7 (by simp)).arr (by omega) (fun w8 h8 _ => by omega) fun w8 v8 G8 _ s8 g8 f8 => ?_
      have b8 := f8.some (by simp) b7
      have e8 := s8.len
      rw [frB_len] at e8
      replace e8 : lenl v8 = some (.int .i64 ((11 + x.2.length : Nat) : Int)) := e8
      have f28 := f27.trans' f8
      have gr12 := f2.grow
      have gr24 := f4.grow
      (repeat (first | refine BND_step (addn_ (n := k) (by omega)) ?_ | refine BND_step (loadn_all' b8 rfl) ?_ | refine gg ?_))
      refine rec_push (x := (recRead x).1) (h2.fr f28) ((sn.fr f7 (by simp)).fr f8 (by simp)) (fun b hb hb' => by have := gn b hb; have := h2.lt b hb'; omega) rfl (by omega) (by omega) fun v10 w10 G10 h10 g10 f10 => ?_
      have se10 := (se.fr f28 (by simp)).fr f10 (fun b hb hb' => (gG b hb').2 hb)
      refine push_step (enc := encO) (x := k + (11 + x.2.length)) se10 encO_len encO_one rfl rfl (by omega) (by omega) fun v12 w12 E12 s12 g12 f12 => ?_
      have gr28 := f28.grow
      have gr10 := f10.grow
      have gr5 := f5.grow
      have gr7 := f7.grow
      have gr8 := f8.grow
      have nG : ∀ b ∈ G10, hsz w1 ≤ b ∧ b ∉ E12 := fun b hb => by
        rcases g10 b hb with hq | hq
        · refine ⟨(gG b hq).1, fun hb' => ?_⟩
          rcases g12 b hb' with hq2 | hq2
          · exact (gG b hq).2 hq2
          · have := h2.lt b hq; omega
        · refine ⟨by omega, fun hb' => ?_⟩
          rcases g12 b hb' with hq2 | hq2
          · have := se.lt b hq2; omega
          · have := h10.lt b hb; omega
      have nB : ∀ b ∈ Gn ++ B, hsz w1 ≤ b ∧ b ∉ E12 := fun b hb => by
        have hlt10 : b < hsz w10 := by
          obtain ⟨_, q⟩ := h10
          exact (q b hb).2
        rcases List.mem_append.1 hb with hb | hb
        · have hgn := gn b hb
          refine ⟨by omega, fun hb' => ?_⟩
          rcases g12 b hb' with hq2 | hq2
          · have := se.lt b hq2; omega
          · omega
        · refine ⟨(gB b hb).1, fun hb' => ?_⟩
          rcases g12 b hb' with hq2 | hq2
          · exact (gB b hb).2 hq2
          · omega
      (repeat refine gg ?_)
      refine hJ _ _ _ _ hlt ⟨k + (11 + x.2.length), done ++ [(recRead x).1], ends ++ [k + (11 + x.2.length)], G10, Gn ++ B, E12, rfl, h10.far f12 (fun b hb hb' => ?_) (fun b hb hb' => ?_), s12, nG, nB, fun b hb => ?_, ?_, by omega, by simp [hdl], by simp [hel], by rw [heq]; simp⟩
      · rcases g10 b hb with hq | hq
        · exact (gG b hq).2 hb'
        · have := se.lt b hb'; omega
      · rcases List.mem_append.1 hb with hb | hb
        · have := gn b hb; have := se.lt b hb'; omega
        · exact (gB b hb).2 hb'
      · rcases g12 b hb with hq | hq
        · exact gE b hq
        · omega
      · exact ((f2.trans' f28).trans f10 fun b hb => .inr (gG b hb).1).trans f12 fun b hb => .inr (gE b hb)
    · rw [if_neg he] at heq
      (repeat refine gg ?_)
      have gw := f1.grow
      have := hR w7 o ev G B E (by rw [heq]; simpa using h2.fr f27) (by rw [heq]; simpa using se.fr f27 (by simp)) (fun b hb => by have := (gG b hb).1; omega) (fun b hb => by have := (gB b hb).1; omega) (fun b hb => by have := gE b hb; omega) (f1.trans' f17)
      rw [heq] at this
      exact this
  · (repeat refine gg ?_)
    rw [List.drop_eq_nil_of_le (by omega)] at heq
    simp only [recAllF, List.append_nil] at heq
    have gw := f1.grow
    have := hR w2 o ev G B E (by rw [heq]; exact h2) (by rw [heq]; exact se) (fun b hb => by have := (gG b hb).1; omega) (fun b hb => by have := (gB b hb).1; omega) (fun b hb => by have := gE b hb; omega) (f1.trans' f2)
    rw [heq] at this
    exact this
end
end Go.Proofs.YtmefbneoljpbgaaGreatDoor
