
/- A disk's calls: New, Read, Sync, Cut. No condition but sizes. -/
import Derived.Test.YtmefbneoljpbgaaGreatDoorDiskDo3
import Derived.Test.YtmefbneoljpbgaaGreatDoorMa
namespace Go.Proofs.YtmefbneoljpbgaaGreatDoor
open Go.Den Go.Disk
theorem isSome_find {s : Dk} {n : ByteArray} {f : Nat} (h : findD s.now n = some f) : (s.find n).isSome = true ∧ (s.find n).getD 0 = f := by
  unfold Dk.find; rw [h]; exact ⟨rfl, rfl⟩
theorem wf_pick {s : Dk} (hw : s.Wf) {n : ByteArray} {f : Nat} (h : findD s.now n = some f) : s.files[f]? = some (fileAt s f) := by
  have hi := hw.idx _ (List.mem_of_getElem? (dk_now_get hw.ne)) _ (findD_mem h)
  unfold fileAt
  rw [List.getD_eq_getElem?_getD, List.getElem?_eq_getElem hi]; rfl
theorem Slc.take0 {α : Type} {enc : α → List Value} {sz : Nat} {w : World} {v : Value} {xs : List α} {F : List Nat} (h : Slc enc sz w v xs F) {n : Nat} (hn : n ≤ xs.length) (k : IntKind) : ∃ v', slicev sz v none (some (.int k (n : Int))) = some v' ∧ Slc enc sz w v' (xs.take n) F := by
  rcases h with ⟨rfl, rfl, rfl⟩ | ⟨b, cap, c, T, rfl, hb, hc, hs, rfl, hel⟩
  · have : n = 0 := by simpa using hn
    subst this
    exact ⟨.slice none 0 0, by simp [slicev, natOf], Slc.nil _ _ _⟩
  · have h1 : n ≤ cap := by omega
    refine ⟨.slice (some ⟨b, 0, none⟩) n cap, ?_, .inr ⟨b, cap, c, T, by simp [Nat.min_eq_left hn], hb, by simp; omega, hs, rfl, fun i x hx j hj => ?_⟩⟩
    · simp [slicev, natOf, h1, Addr.add]
    · rw [List.getElem?_take] at hx
      split at hx
      · exact hel i x hx j hj
      · simp at hx
theorem slc_nil : binv .slc .eql (.slice none 0 0) (.slice none 0 0) = some (.bool true) := rfl
theorem slc_not {a : Addr} {n c : Nat} : binv .slc .eql (.slice (some a) n c) (.slice none 0 0) = some (.bool false) := rfl
set_option linter.unusedSimpArgs false
set_option linter.unusedVariables false
set_option maxRecDepth 20000
set_option maxHeartbeats 4000000
attribute [local congr] BND_cg COND_cg GEF_cg
attribute [local irreducible] capl slicea load1 loadn iaddr iaddra faddr storev newslice binv lookv mupd mdel mlenv mentry mestore slicev slicev3 slices indexs indexav textv rangev nexts clearv shiftv eqaggv convi buildv pickv lens lenl unv nilchk extractv partn JOIN
section
variable {w0 w : World} {F0 : List Nat} {d : Nat} {s : Dk} {R : Value → World → Prop}
theorem dk_New (room : Int) (hR0 : (room < 16 ∨ 1048576 < room) → R (.tuple #[.pointer none, .int .i64 1]) w)
    (hR : 16 ≤ room ∧ room ≤ 1048576 → ∀ w' d, At w [] (diskHP d (empty room)) w' → R (.tuple #[ptrTo d, .int .i64 0]) w') : CALL PR F_disk_New [.int .i64 room] w R := by
  refine C_disk_New ?_
  unfold M_disk_New
  by_cases h1 : room < 16
  · (repeat (first | refine stp ?_ | (apply BND_inc; omega) | (apply BND_dec; omega) | refine BND_step (rfl : some _ = some _) ?_ | (apply cyes; first | assumption | omega) | (apply cno; first | assumption | omega) | refine (COND_true _ _).2 ?_ | refine (COND_false _ _).2 ?_ | simp (disch := first | assumption | omega) only [gs1, gs2, decide_true, decide_false, eq_self, beq_self_eq_true, Bool.not_true, Bool.not_false]))
    exact hR0 (.inl h1)
  by_cases h2 : 1048576 < room
  · (repeat (first | refine stp ?_ | (apply BND_inc; omega) | (apply BND_dec; omega) | refine BND_step (rfl : some _ = some _) ?_ | (apply cyes; first | assumption | omega) | (apply cno; first | assumption | omega) | refine (COND_true _ _).2 ?_ | refine (COND_false _ _).2 ?_ | simp (disch := first | assumption | omega) only [gs1, gs2, decide_true, decide_false, eq_self, beq_self_eq_true, Bool.not_true, Bool.not_false]))
    exact hR0 (.inr h2)
  (repeat (first | refine stp ?_ | (apply BND_inc; omega) | (apply BND_dec; omega) | refine BND_step (rfl : some _ = some _) ?_ | (apply cyes; first | assumption | omega) | (apply cno; first | assumption | omega) | refine (COND_true _ _).2 ?_ | refine (COND_false _ _).2 ?_ | simp (disch := first | assumption | omega) only [gs1, gs2, decide_true, decide_false, eq_self, beq_self_eq_true, Bool.not_true, Bool.not_false]))
  refine NEWMAP_intro fun w1 b1 f1 z1 => ?_
  (repeat (first | (apply BND_build ([.int .i64 room, .map (some (hsz w)), .slice none 0 0, .int .i64 (-1), .bool false]); exact rfl) | refine stp ?_ | (apply BND_inc; omega) | (apply BND_dec; omega) | refine BND_step (rfl : some _ = some _) ?_ | (apply cyes; first | assumption | omega) | (apply cno; first | assumption | omega) | refine (COND_true _ _).2 ?_ | refine (COND_false _ _).2 ?_ | simp (disch := first | assumption | omega) only [gs1, gs2, decide_true, decide_false, eq_self, beq_self_eq_true, Bool.not_true, Bool.not_false]))
  refine NEW_intro fun w2 b2 f2 z2 => ?_
  (repeat (first | refine stp ?_ | (apply BND_inc; omega) | (apply BND_dec; omega) | refine BND_step (rfl : some _ = some _) ?_ | (apply cyes; first | assumption | omega) | (apply cno; first | assumption | omega) | refine (COND_true _ _).2 ?_ | refine (COND_false _ _).2 ?_ | simp (disch := first | assumption | omega) only [gs1, gs2, decide_true, decide_false, eq_self, beq_self_eq_true, Bool.not_true, Bool.not_false]))
  have hd : (dirHP [] (hsz w) []).p w2 [hsz w] := ⟨⟨#[], 0, [], by rw [f2.keep _ (by omega) (by simp), b1], ⟨⟨rfl, .nil⟩, by simp, by simp⟩, by simp [dirL]⟩, rfl⟩
  refine hR (by omega) w2 (hsz w1) (dk_shut (sv := .slice none 0 0) (ms := [hsz w]) (fb := []) ⟨[hsz w1, hsz w], ?_, fun b hb => ?_, f1.trans' f2⟩)
  · refine ⟨[], _, ⟨⟨rfl, rfl⟩, rfl⟩, ⟨[hsz w1], [hsz w], ⟨⟨_, b2⟩, rfl⟩, ⟨[], [hsz w], Slc.nil _ _ _, ⟨[hsz w], [], ⟨[hsz w], [], hd, ⟨trivial, rfl⟩, rfl, by simp⟩, ⟨[], [], ⟨trivial, rfl⟩, ⟨trivial, rfl⟩, rfl, by simp⟩, rfl, by simp⟩, rfl, by simp⟩, rfl, ?_⟩, rfl, by simp⟩
    intro b hb hb'
    simp at hb hb'
    omega
  · simp at hb
    right; omega
theorem dk_Read (h : At w0 F0 (diskHP d s) w) (hw : s.Wf) (hn : s.dirs.length < 1000000000) (n : ByteArray) (hR : ∀ w' v G, At w0 F0 (diskHP d s) w' → Slc encB 1 w' v (Disk.read s n).1 G → (∀ b ∈ G, hsz w ≤ b) → Fr [] w w' → R (.tuple #[v, .int .i64 (Disk.read s n).2]) w') :
    CALL PR F_disk_Disk_Read [ptrTo d, .string n] w R := by
  refine C_disk_Disk_Read ?_
  unfold M_disk_Disk_Read
  obtain ⟨sv, ms, fb, hs, hm, hf⟩ := dk_open h
  obtain ⟨T, c⟩ := hs.cell (i := 1) rfl
  unfold Disk.read at hR
  cases hg : s.gone with
  | true =>
    simp only [hg, if_true] at hR
    unfold ptrTo
    (repeat (first | (apply BND_ld c; exact rfl) | refine stp ?_ | (apply BND_inc; omega) | (apply BND_dec; omega) | refine BND_step (rfl : some _ = some _) ?_ | (apply cyes; first | assumption | omega) | (apply cno; first | assumption | omega) | refine (COND_true _ _).2 ?_ | refine (COND_false _ _).2 ?_ | simp (disch := first | assumption | omega) only [gs1, gs2, decide_true, decide_false, eq_self, beq_self_eq_true, Bool.not_true, Bool.not_false]))
    rw [hg]
    (repeat (first | refine stp ?_ | (apply BND_inc; omega) | (apply BND_dec; omega) | refine BND_step (rfl : some _ = some _) ?_ | (apply cyes; first | assumption | omega) | (apply cno; first | assumption | omega) | refine (COND_true _ _).2 ?_ | refine (COND_false _ _).2 ?_ | simp (disch := first | assumption | omega) only [gs1, gs2, decide_true, decide_false, eq_self, beq_self_eq_true, Bool.not_true, Bool.not_false]))
    exact hR w _ [] h (Slc.nil _ _ _) (by simp) (Fr.refl _ _)
  | false =>
    simp only [hg, Bool.false_eq_true, if_false] at hR
    unfold ptrTo
    (repeat (first | (apply BND_ld c; exact rfl) | refine stp ?_ | (apply BND_inc; omega) | (apply BND_dec; omega) | refine BND_step (rfl : some _ = some _) ?_ | (apply cyes; first | assumption | omega) | (apply cno; first | assumption | omega) | refine (COND_true _ _).2 ?_ | refine (COND_false _ _).2 ?_ | simp (disch := first | assumption | omega) only [gs1, gs2, decide_true, decide_false, eq_self, beq_self_eq_true, Bool.not_true, Bool.not_false]))
    rw [hg]
    (repeat (first | refine stp ?_ | (apply BND_inc; omega) | (apply BND_dec; omega) | refine BND_step (rfl : some _ = some _) ?_ | (apply cyes; first | assumption | omega) | (apply cno; first | assumption | omega) | refine (COND_true _ _).2 ?_ | refine (COND_false _ _).2 ?_ | simp (disch := first | assumption | omega) only [gs1, gs2, decide_true, decide_false, eq_self, beq_self_eq_true, Bool.not_true, Bool.not_false]))
    unfold Dk.find at hR
    refine dk_there h hw hn n ?_
    cases hfd : findD s.now n with
    | none =>
      have e : there s n = 5 := by unfold there Dk.find; rw [hfd]; rfl
      rw [e]
      simp only [hfd] at hR
      (repeat (first | refine stp ?_ | (apply BND_inc; omega) | (apply BND_dec; omega) | refine BND_step (rfl : some _ = some _) ?_ | (apply cyes; first | assumption | omega) | (apply cno; first | assumption | omega) | refine (COND_true _ _).2 ?_ | refine (COND_false _ _).2 ?_ | simp (disch := first | assumption | omega) only [gs1, gs2, decide_true, decide_false, eq_self, beq_self_eq_true, Bool.not_true, Bool.not_false]))
      exact hR w _ [] h (Slc.nil _ _ _) (by simp) (Fr.refl _ _)
    | some f =>
      have e : there s n = 0 := by unfold there Dk.find; rw [hfd]; rfl
      rw [e]
      simp only [hfd] at hR
      have hr : riseD s.now := hw.rise _ (List.mem_of_getElem? (dk_now_get hw.ne))
      (repeat (first | refine stp ?_ | (apply BND_inc; omega) | (apply BND_dec; omega) | refine BND_step (rfl : some _ = some _) ?_ | (apply cyes; first | assumption | omega) | (apply cno; first | assumption | omega) | refine (COND_true _ _).2 ?_ | refine (COND_false _ _).2 ?_ | simp (disch := first | assumption | omega) only [gs1, gs2, decide_true, decide_false, eq_self, beq_self_eq_true, Bool.not_true, Bool.not_false]))
      refine dk_now h hw.ne hn fun sv ms fb m es ck L hs hm hf hmm b1 b2 b3 => ?_
      have lk1 := dk_lookup b1 b2 b3 hr n
      rw [hfd] at lk1
      have hx := wf_pick hw hfd
      have hi : f < fb.length := by rw [hf]; exact (List.getElem?_eq_some_iff.1 hx).1
      have hb := List.getElem?_eq_getElem hi
      have hgd : fb.getD f 0 = fb[f] := by rw [List.getD_eq_getElem?_getD, hb]; rfl
      simp only [hgd] at lk1
      generalize fb[f] = b at hb lk1
      simp only [ptrTo] at lk1
      obtain ⟨bv, T, G, c2, ss⟩ := dk_file hs hb hx
      have hsm := hw.small _ (List.mem_of_getElem? hx)
      have hrm := hw.room
      (repeat (first | refine BND_step lk1 ?_ | (apply BND_ld c2; exact rfl) | refine stp ?_ | (apply BND_inc; omega) | (apply BND_dec; omega) | refine BND_step (rfl : some _ = some _) ?_ | (apply cyes; first | assumption | omega) | (apply cno; first | assumption | omega) | refine (COND_true _ _).2 ?_ | refine (COND_false _ _).2 ?_ | simp (disch := first | assumption | omega) only [gs1, gs2, decide_true, decide_false, eq_self, beq_self_eq_true, Bool.not_true, Bool.not_false]))
      refine C_slices_Clone_byte_byte ?_
      unfold M_slices_Clone_byte_byte
      have ss0 := ss
      rcases ss with ⟨rfl, e3, _⟩ | ⟨b', cap, cc, T', rfl, _, _, _, _, _⟩
      · (repeat (first | refine BND_step slc_nil ?_ | refine BND_step slc_not ?_ | refine stp ?_ | (apply BND_inc; omega) | (apply BND_dec; omega) | refine BND_step (rfl : some _ = some _) ?_ | (apply cyes; first | assumption | omega) | (apply cno; first | assumption | omega) | refine (COND_true _ _).2 ?_ | refine (COND_false _ _).2 ?_ | simp (disch := first | assumption | omega) only [gs1, gs2, decide_true, decide_false, eq_self, beq_self_eq_true, Bool.not_true, Bool.not_false]))
        rw [show (fileAt s f).b = [] from e3] at hR
        exact hR w _ [] h (Slc.nil _ _ _) (by simp) (Fr.refl _ _)
      · (repeat (first | refine BND_step slc_nil ?_ | refine BND_step slc_not ?_ | refine stp ?_ | (apply BND_inc; omega) | (apply BND_dec; omega) | refine BND_step (rfl : some _ = some _) ?_ | (apply cyes; first | assumption | omega) | (apply cno; first | assumption | omega) | refine (COND_true _ _).2 ?_ | refine (COND_false _ _).2 ?_ | simp (disch := first | assumption | omega) only [gs1, gs2, decide_true, decide_false, eq_self, beq_self_eq_true, Bool.not_true, Bool.not_false]))
        refine newnil_step encB fun t w1 s1 f1 z1 => ?_
        refine APPEND_slc s1 (ys := (fileAt s f).b) ((ss0.fr f1 (by simp)).loads encB_len) encB_len encB_one rfl (by simp; omega) (by simp; omega) fun v' w2 F' s2 f2 sub => ?_
        (repeat (first | refine stp ?_ | (apply BND_inc; omega) | (apply BND_dec; omega) | refine BND_step (rfl : some _ = some _) ?_ | (apply cyes; first | assumption | omega) | (apply cno; first | assumption | omega) | refine (COND_true _ _).2 ?_ | refine (COND_false _ _).2 ?_ | simp (disch := first | assumption | omega) only [gs1, gs2, decide_true, decide_false, eq_self, beq_self_eq_true, Bool.not_true, Bool.not_false]))
        have f3 : Fr [] w w2 := f1.trans f2 (by simp)
        exact hR w2 v' F' (h.fr0 f3) s2 (fun b hb => by
          rcases sub b hb with hb | hb
          · simp at hb; omega
          · omega) f3
theorem dk_Sync (h : At w0 F0 (diskHP d s) w) (hw : s.Wf) (hn : s.dirs.length < 1000000000) (n : ByteArray) (hR : ∀ w', At w0 F0 (diskHP d (sync s n).1) w' → R (.int .i64 (sync s n).2) w') :
    CALL PR F_disk_Disk_Sync [ptrTo d, .string n] w R := by
  refine C_disk_Disk_Sync ?_
  unfold M_disk_Disk_Sync
  refine dk_there h hw hn n ?_
  refine dk_can h _ hw.burn fun w4 h4 => ?_
  have hr : riseD s.now := hw.rise _ (List.mem_of_getElem? (dk_now_get hw.ne))
  unfold sync at hR
  by_cases hc : (can s (there s n)).2 = 0
  · simp only [hc, if_true] at hR
    rw [hc]
    obtain ⟨f, hfd⟩ := there_zero (can_zero hc)
    rw [(isSome_find hfd).2] at hR
    (repeat (first | refine stp ?_ | (apply BND_inc; omega) | (apply BND_dec; omega) | refine BND_step (rfl : some _ = some _) ?_ | (apply cyes; first | assumption | omega) | (apply cno; first | assumption | omega) | refine (COND_true _ _).2 ?_ | refine (COND_false _ _).2 ?_ | simp (disch := first | assumption | omega) only [gs1, gs2, decide_true, decide_false, eq_self, beq_self_eq_true, Bool.not_true, Bool.not_false]))
    refine join_w (fun w' => At w0 F0 (diskHP d (setF (can s (there s n)).1 f { fileAt s f with sure := (fileAt s f).b.length })) w') (fun K hK => ?_) (fun w' hw' => hR w' hw')
    obtain ⟨k1, k2, k3⟩ := can_keep s (there s n)
    (repeat (first | refine stp ?_ | (apply BND_inc; omega) | (apply BND_dec; omega) | refine BND_step (rfl : some _ = some _) ?_ | (apply cyes; first | assumption | omega) | (apply cno; first | assumption | omega) | refine (COND_true _ _).2 ?_ | refine (COND_false _ _).2 ?_ | simp (disch := first | assumption | omega) only [gs1, gs2, decide_true, decide_false, eq_self, beq_self_eq_true, Bool.not_true, Bool.not_false]))
    refine dk_now h4 (by rw [k2]; exact hw.ne) (by rw [k2]; exact hn) fun sv ms fb m es ck L hs hm hf hmm b1 b2 b3 => ?_
    rw [can_now] at b3
    have lk1 := dk_lookup b1 b2 b3 hr n
    rw [hfd] at lk1
    have hx : (can s (there s n)).1.files[f]? = some (fileAt s f) := by rw [k1]; exact wf_pick hw hfd
    have hi : f < fb.length := by rw [hf]; exact (List.getElem?_eq_some_iff.1 hx).1
    have hb := List.getElem?_eq_getElem hi
    have hgd : fb.getD f 0 = fb[f] := by rw [List.getD_eq_getElem?_getD, hb]; rfl
    simp only [hgd] at lk1
    generalize fb[f] = b at hb lk1
    simp only [ptrTo] at lk1
    obtain ⟨A, bv, ha, back⟩ := dk_fupd hs hb hx
    obtain ⟨T, c⟩ := ha.cell (i := 0) rfl
    obtain ⟨Fs, ss, _⟩ := ha.slc1 (i := 1) rfl
    (repeat (first | refine BND_step lk1 ?_ | (apply BND_ld c; exact rfl) | refine BND_step ss.len ?_ | refine stp ?_ | (apply BND_inc; omega) | (apply BND_dec; omega) | refine BND_step (rfl : some _ = some _) ?_ | (apply cyes; first | assumption | omega) | (apply cno; first | assumption | omega) | refine (COND_true _ _).2 ?_ | refine (COND_false _ _).2 ?_ | simp (disch := first | assumption | omega) only [gs1, gs2, decide_true, decide_false, eq_self, beq_self_eq_true, Bool.not_true, Bool.not_false]))
    refine ha.store (i := 0) rfl ⟨rfl, rfl⟩ (by simp) fun w5 h5 f5 => hK _ ?_
    exact dk_shut (back w5 bv { fileAt s f with sure := (fileAt s f).b.length } h5)
  · simp only [hc, if_false] at hR
    (repeat (first | refine stp ?_ | (apply BND_inc; omega) | (apply BND_dec; omega) | refine BND_step (rfl : some _ = some _) ?_ | (apply cyes; first | assumption | omega) | (apply cno; first | assumption | omega) | refine (COND_true _ _).2 ?_ | refine (COND_false _ _).2 ?_ | simp (disch := first | assumption | omega) only [gs1, gs2, decide_true, decide_false, eq_self, beq_self_eq_true, Bool.not_true, Bool.not_false]))
    refine join_w (fun w' => At w0 F0 (diskHP d (can s (there s n)).1) w') (fun K hK => ?_) (fun w' hw' => hR w' hw')
    (repeat (first | refine stp ?_ | (apply BND_inc; omega) | (apply BND_dec; omega) | refine BND_step (rfl : some _ = some _) ?_ | (apply cyes; first | assumption | omega) | (apply cno; first | assumption | omega) | refine (COND_true _ _).2 ?_ | refine (COND_false _ _).2 ?_ | simp (disch := first | assumption | omega) only [gs1, gs2, decide_true, decide_false, eq_self, beq_self_eq_true, Bool.not_true, Bool.not_false]))
    exact hK w4 h4
theorem dk_Cut (h : At w0 F0 (diskHP d s) w) (hw : s.Wf) (hn : s.dirs.length < 1000000000) (n : ByteArray) (k : Int) (hR : ∀ w', At w0 F0 (diskHP d (cut s n k).1) w' → R (.int .i64 (cut s n k).2) w') :
    CALL PR F_disk_Disk_Cut [ptrTo d, .string n, .int .i64 k] w R := by
  refine C_disk_Disk_Cut ?_
  unfold M_disk_Disk_Cut
  refine dk_there h hw hn n ?_
  have hr : riseD s.now := hw.rise _ (List.mem_of_getElem? (dk_now_get hw.ne))
  have rest : ∀ e, e = cutE s n k → (CALL PR F_disk_Disk_can [ptrTo d, .int .i64 e] w fun t32_19 w4 =>
      BND (binv .int .eql t32_19 (Value.int .i64 0)) fun t34_20 =>
      JOIN (α := World → Prop) (fun k_44 => COND t34_20
      (CALL PR F_disk_Disk_now [ptrTo d] w4 fun t36_45 w6 =>
      BND (lookv .string (Value.pointer none) false w6 t36_45 (.string n)) fun t38_46 =>
      BND (nilchk t38_46) fun t42_47 =>
      BND (faddr 0 t42_47) fun t43_48 =>
      BND (nilchk t38_46) fun t48_49 =>
      BND (faddr 1 t48_49) fun t49_50 =>
      BND (load1 w6.drew t43_48) fun t44_51 =>
      BND (slicev 1 t44_51 none (some (.int .i64 k))) fun t46_52 =>
      BND (load1 w6.drew t49_50) fun t50_53 =>
      BND (min2v t50_53 (.int .i64 k)) fun t52_54 =>
      BND (nilchk t38_46) fun t53_55 =>
      BND (faddr 0 t53_55) fun t54_56 =>
      BND (storev 1 w6.drew t54_56 t46_52) fun w7 =>
      BND (nilchk t38_46) fun t55_57 =>
      BND (faddr 1 t55_57) fun t56_58 =>
      BND (storev 1 w7 t56_58 t52_54) fun w8 =>
      k_44 w8)
      (k_44 w4))
      (fun w5 => R t32_19 w5)) := by
    rintro _ rfl
    refine dk_can h _ hw.burn fun w4 h4 => ?_
    unfold cut at hR
    by_cases hc : (can s (cutE s n k)).2 = 0
    · simp only [hc, if_true] at hR
      rw [hc]
      have hcz := can_zero hc
      obtain ⟨f, hfd⟩ : ∃ f, findD s.now n = some f := by
        unfold cutE Dk.find at hcz
        cases hq : findD s.now n with
        | some f => exact ⟨f, rfl⟩
        | none => rw [hq] at hcz; simp at hcz
      have hk : 0 ≤ k ∧ k ≤ ((fileAt s f).b.length : Int) := by
        unfold cutE Dk.find at hcz
        rw [hfd] at hcz
        simp only at hcz
        split at hcz
        · simp at hcz
        · omega
      rw [(isSome_find hfd).2] at hR
      (repeat (first | refine stp ?_ | (apply BND_inc; omega) | (apply BND_dec; omega) | refine BND_step (rfl : some _ = some _) ?_ | (apply cyes; first | assumption | omega) | (apply cno; first | assumption | omega) | refine (COND_true _ _).2 ?_ | refine (COND_false _ _).2 ?_ | simp (disch := first | assumption | omega) only [gs1, gs2, decide_true, decide_false, eq_self, beq_self_eq_true, Bool.not_true, Bool.not_false]))
      refine join_w (fun w' => At w0 F0 (diskHP d (setF (can s (cutE s n k)).1 f ⟨(fileAt s f).b.take k.toNat, min (fileAt s f).sure k.toNat⟩)) w') (fun K hK => ?_) (fun w' hw' => hR w' hw')
      obtain ⟨k1, k2, k3⟩ := can_keep s (cutE s n k)
      (repeat (first | refine stp ?_ | (apply BND_inc; omega) | (apply BND_dec; omega) | refine BND_step (rfl : some _ = some _) ?_ | (apply cyes; first | assumption | omega) | (apply cno; first | assumption | omega) | refine (COND_true _ _).2 ?_ | refine (COND_false _ _).2 ?_ | simp (disch := first | assumption | omega) only [gs1, gs2, decide_true, decide_false, eq_self, beq_self_eq_true, Bool.not_true, Bool.not_false]))
      refine dk_now h4 (by rw [k2]; exact hw.ne) (by rw [k2]; exact hn) fun sv ms fb m es ck L hs hm hf hmm b1 b2 b3 => ?_
      rw [can_now] at b3
      have lk1 := dk_lookup b1 b2 b3 hr n
      rw [hfd] at lk1
      have hx : (can s (cutE s n k)).1.files[f]? = some (fileAt s f) := by rw [k1]; exact wf_pick hw hfd
      have hi : f < fb.length := by rw [hf]; exact (List.getElem?_eq_some_iff.1 hx).1
      have hb := List.getElem?_eq_getElem hi
      have hgd : fb.getD f 0 = fb[f] := by rw [List.getD_eq_getElem?_getD, hb]; rfl
      simp only [hgd] at lk1
      generalize fb[f] = b at hb lk1
      simp only [ptrTo] at lk1
      obtain ⟨A, bv, ha, back⟩ := dk_fupd (hs.fr0 (Fr.drew [] _)) hb hx
      obtain ⟨T, c⟩ := ha.cell (i := 0) rfl
      obtain ⟨Fs, ss, upd⟩ := ha.upd 1 rfl
      obtain ⟨kn, rfl⟩ : ∃ kn : Nat, k = (kn : Int) := ⟨k.toNat, by omega⟩
      obtain ⟨bv', e1, s1⟩ := Slc.take0 ss (n := kn) (by omega) .i64
      have ha2 := upd _ Fs (slc encB 1 bv' ((fileAt s f).b.take kn)) s1 (Fr.refl _ _) (fun c hc => .inl hc)
      have em : min2v (.int .i64 ((fileAt s f).sure : Int)) (.int .i64 (kn : Int)) = some (.int .i64 ((min (fileAt s f).sure kn : Nat) : Int)) := by
        show some (Value.int .i64 (if (kn : Int) < ((fileAt s f).sure : Int) then (kn : Int) else ((fileAt s f).sure : Int))) = _
        congr 2
        split <;> omega
      (repeat (first | refine BND_step lk1 ?_ | (apply BND_ld c; exact rfl) | refine BND_step e1 ?_ | refine BND_step em ?_ | refine stp ?_ | (apply BND_inc; omega) | (apply BND_dec; omega) | refine BND_step (rfl : some _ = some _) ?_ | (apply cyes; first | assumption | omega) | (apply cno; first | assumption | omega) | refine (COND_true _ _).2 ?_ | refine (COND_false _ _).2 ?_ | simp (disch := first | assumption | omega) only [gs1, gs2, decide_true, decide_false, eq_self, beq_self_eq_true, Bool.not_true, Bool.not_false]))
      refine ha2.store (i := 0) rfl s1.one (by simp) fun w7 h7 f7 => ?_
      (repeat (first | refine stp ?_ | (apply BND_inc; omega) | (apply BND_dec; omega) | refine BND_step (rfl : some _ = some _) ?_ | (apply cyes; first | assumption | omega) | (apply cno; first | assumption | omega) | refine (COND_true _ _).2 ?_ | refine (COND_false _ _).2 ?_ | simp (disch := first | assumption | omega) only [gs1, gs2, decide_true, decide_false, eq_self, beq_self_eq_true, Bool.not_true, Bool.not_false]))
      refine h7.store (i := 0) rfl ⟨rfl, rfl⟩ (by simp) fun w8 h8 f8 => hK _ ?_
      exact dk_shut (back w8 bv' ⟨(fileAt s f).b.take kn, min (fileAt s f).sure kn⟩ h8)
    · simp only [hc, if_false] at hR
      (repeat (first | refine stp ?_ | (apply BND_inc; omega) | (apply BND_dec; omega) | refine BND_step (rfl : some _ = some _) ?_ | (apply cyes; first | assumption | omega) | (apply cno; first | assumption | omega) | refine (COND_true _ _).2 ?_ | refine (COND_false _ _).2 ?_ | simp (disch := first | assumption | omega) only [gs1, gs2, decide_true, decide_false, eq_self, beq_self_eq_true, Bool.not_true, Bool.not_false]))
      refine join_w (fun w' => At w0 F0 (diskHP d (can s (cutE s n k)).1) w') (fun K hK => ?_) (fun w' hw' => hR w' hw')
      (repeat (first | refine stp ?_ | (apply BND_inc; omega) | (apply BND_dec; omega) | refine BND_step (rfl : some _ = some _) ?_ | (apply cyes; first | assumption | omega) | (apply cno; first | assumption | omega) | refine (COND_true _ _).2 ?_ | refine (COND_false _ _).2 ?_ | simp (disch := first | assumption | omega) only [gs1, gs2, decide_true, decide_false, eq_self, beq_self_eq_true, Bool.not_true, Bool.not_false]))
      exact hK w4 h4
  cases hfd : findD s.now n with
  | none =>
    have e1 : there s n = 5 := by unfold there Dk.find; rw [hfd]; rfl
    have e : cutE s n k = 5 := by unfold cutE Dk.find; rw [hfd]
    rw [e1]
    (repeat (first | refine stp ?_ | (apply BND_inc; omega) | (apply BND_dec; omega) | refine BND_step (rfl : some _ = some _) ?_ | (apply cyes; first | assumption | omega) | (apply cno; first | assumption | omega) | refine (COND_true _ _).2 ?_ | refine (COND_false _ _).2 ?_ | simp (disch := first | assumption | omega) only [gs1, gs2, decide_true, decide_false, eq_self, beq_self_eq_true, Bool.not_true, Bool.not_false]))
    refine join_v (fun e w' => e = .int .i64 (cutE s n k) ∧ w' = w) (fun K hK => ?_) ?_
    · (repeat (first | refine stp ?_ | (apply BND_inc; omega) | (apply BND_dec; omega) | refine BND_step (rfl : some _ = some _) ?_ | (apply cyes; first | assumption | omega) | (apply cno; first | assumption | omega) | refine (COND_true _ _).2 ?_ | refine (COND_false _ _).2 ?_ | simp (disch := first | assumption | omega) only [gs1, gs2, decide_true, decide_false, eq_self, beq_self_eq_true, Bool.not_true, Bool.not_false]))
      exact hK _ _ ⟨by rw [e], rfl⟩
    · rintro _ _ ⟨rfl, rfl⟩
      exact rest _ rfl
  | some f =>
    have e1 : there s n = 0 := by unfold there Dk.find; rw [hfd]; rfl
    have e : cutE s n k = if k < 0 ∨ ((fileAt s f).b.length : Int) < k then 1 else 0 := by unfold cutE Dk.find; rw [hfd]
    rw [e1]
    by_cases hk0 : k < 0
    · (repeat (first | refine stp ?_ | (apply BND_inc; omega) | (apply BND_dec; omega) | refine BND_step (rfl : some _ = some _) ?_ | (apply cyes; first | assumption | omega) | (apply cno; first | assumption | omega) | refine (COND_true _ _).2 ?_ | refine (COND_false _ _).2 ?_ | simp (disch := first | assumption | omega) only [gs1, gs2, decide_true, decide_false, eq_self, beq_self_eq_true, Bool.not_true, Bool.not_false]))
      refine join_v (fun e w' => e = .int .i64 (cutE s n k) ∧ w' = w) (fun K hK => ?_) ?_
      · (repeat (first | refine stp ?_ | (apply BND_inc; omega) | (apply BND_dec; omega) | refine BND_step (rfl : some _ = some _) ?_ | (apply cyes; first | assumption | omega) | (apply cno; first | assumption | omega) | refine (COND_true _ _).2 ?_ | refine (COND_false _ _).2 ?_ | simp (disch := first | assumption | omega) only [gs1, gs2, decide_true, decide_false, eq_self, beq_self_eq_true, Bool.not_true, Bool.not_false]))
        exact hK _ _ ⟨by rw [e, if_pos (.inl hk0)], rfl⟩
      · rintro _ _ ⟨rfl, rfl⟩
        exact rest _ rfl
    · (repeat (first | refine stp ?_ | (apply BND_inc; omega) | (apply BND_dec; omega) | refine BND_step (rfl : some _ = some _) ?_ | (apply cyes; first | assumption | omega) | (apply cno; first | assumption | omega) | refine (COND_true _ _).2 ?_ | refine (COND_false _ _).2 ?_ | simp (disch := first | assumption | omega) only [gs1, gs2, decide_true, decide_false, eq_self, beq_self_eq_true, Bool.not_true, Bool.not_false]))
      refine dk_now h hw.ne hn fun sv ms fb m es ck L hs hm hf hmm b1 b2 b3 => ?_
      have lk1 := dk_lookup b1 b2 b3 hr n
      rw [hfd] at lk1
      have hx := wf_pick hw hfd
      have hi : f < fb.length := by rw [hf]; exact (List.getElem?_eq_some_iff.1 hx).1
      have hb := List.getElem?_eq_getElem hi
      have hgd : fb.getD f 0 = fb[f] := by rw [List.getD_eq_getElem?_getD, hb]; rfl
      simp only [hgd] at lk1
      generalize fb[f] = b at hb lk1
      simp only [ptrTo] at lk1
      obtain ⟨bv, T, G, c2, ss⟩ := dk_file hs hb hx
      (repeat (first | refine BND_step lk1 ?_ | (apply BND_ld c2; exact rfl) | refine BND_step ss.len ?_ | refine stp ?_ | (apply BND_inc; omega) | (apply BND_dec; omega) | refine BND_step (rfl : some _ = some _) ?_ | (apply cyes; first | assumption | omega) | (apply cno; first | assumption | omega) | refine (COND_true _ _).2 ?_ | refine (COND_false _ _).2 ?_ | simp (disch := first | assumption | omega) only [gs1, gs2, decide_true, decide_false, eq_self, beq_self_eq_true, Bool.not_true, Bool.not_false]))
      by_cases hk1 : ((fileAt s f).b.length : Int) < k
      · (repeat (first | refine stp ?_ | (apply BND_inc; omega) | (apply BND_dec; omega) | refine BND_step (rfl : some _ = some _) ?_ | (apply cyes; first | assumption | omega) | (apply cno; first | assumption | omega) | refine (COND_true _ _).2 ?_ | refine (COND_false _ _).2 ?_ | simp (disch := first | assumption | omega) only [gs1, gs2, decide_true, decide_false, eq_self, beq_self_eq_true, Bool.not_true, Bool.not_false]))
        refine join_v (fun e w' => e = .int .i64 (cutE s n k) ∧ w' = w) (fun K hK => ?_) ?_
        · (repeat (first | refine stp ?_ | (apply BND_inc; omega) | (apply BND_dec; omega) | refine BND_step (rfl : some _ = some _) ?_ | (apply cyes; first | assumption | omega) | (apply cno; first | assumption | omega) | refine (COND_true _ _).2 ?_ | refine (COND_false _ _).2 ?_ | simp (disch := first | assumption | omega) only [gs1, gs2, decide_true, decide_false, eq_self, beq_self_eq_true, Bool.not_true, Bool.not_false]))
          exact hK _ _ ⟨by rw [e, if_pos (.inr hk1)], rfl⟩
        · rintro _ _ ⟨rfl, rfl⟩
          exact rest _ rfl
      · (repeat (first | refine stp ?_ | (apply BND_inc; omega) | (apply BND_dec; omega) | refine BND_step (rfl : some _ = some _) ?_ | (apply cyes; first | assumption | omega) | (apply cno; first | assumption | omega) | refine (COND_true _ _).2 ?_ | refine (COND_false _ _).2 ?_ | simp (disch := first | assumption | omega) only [gs1, gs2, decide_true, decide_false, eq_self, beq_self_eq_true, Bool.not_true, Bool.not_false]))
        refine join_v (fun e w' => e = .int .i64 (cutE s n k) ∧ w' = w) (fun K hK => ?_) ?_
        · (repeat (first | refine stp ?_ | (apply BND_inc; omega) | (apply BND_dec; omega) | refine BND_step (rfl : some _ = some _) ?_ | (apply cyes; first | assumption | omega) | (apply cno; first | assumption | omega) | refine (COND_true _ _).2 ?_ | refine (COND_false _ _).2 ?_ | simp (disch := first | assumption | omega) only [gs1, gs2, decide_true, decide_false, eq_self, beq_self_eq_true, Bool.not_true, Bool.not_false]))
          exact hK _ _ ⟨by rw [e, if_neg (by omega)], rfl⟩
        · rintro _ _ ⟨rfl, rfl⟩
          exact rest _ rfl
end
end Go.Proofs.YtmefbneoljpbgaaGreatDoor
