
/- A disk's calls: change, named, Create, Delete, Rename, DirSync, Names, New. No condition but sizes. -/
import Derived.Test.YtmefbneoljpbgaaGreatDoorDiskOps
import Derived.Test.YtmefbneoljpbgaaGreatDoorMa
namespace Go.Proofs.YtmefbneoljpbgaaGreatDoor
open Go.Den Go.Disk
set_option linter.unusedSimpArgs false
set_option linter.unusedVariables false
set_option maxRecDepth 20000
set_option maxHeartbeats 4000000
attribute [local congr] BND_cg COND_cg GEF_cg
attribute [local irreducible] capl slicea load1 loadn iaddr iaddra faddr storev newslice binv lookv mupd mdel mlenv mentry mestore slicev slicev3 slices indexs indexav textv rangev nexts clearv shiftv eqaggv convi buildv pickv lens lenl unv nilchk extractv partn JOIN
theorem At.pure0 {w0 w : World} {F0 : List Nat} {a b : Prop} {ps : List HP} (h : At w0 F0 (stars (pure_ a :: ps)) w) (hb : b) : At w0 F0 (stars (pure_ b :: ps)) w := by
  obtain ⟨F, ⟨A, B, ⟨_, rfl⟩, h2, h3, h4⟩, h5⟩ := h
  exact ⟨F, ⟨[], B, ⟨hb, rfl⟩, h2, h3, h4⟩, h5⟩
/-- the directory, as it stands behind a change. -/
structure NowAt (w : World) (fb : List Nat) (m : Nat) (l : Dir) : Prop where
  h : ∃ es ck L, blk w m = some (.map es ck) ∧ MapB (fun s : ByteArray => Value.string s) es ck L ∧ L.Perm (dirL fb l)
section
variable {w0 w : World} {F0 : List Nat} {d : Nat} {s : Dk} {R : Value → World → Prop}
theorem dk_change (h : At w0 F0 (diskHP d s) w) (hw : s.Wf) (hn : s.dirs.length < 1000000000)
    (hR : ∀ w' sv ms fb m, At w0 F0 (stars (dkL d { s with dirs := s.dirs ++ [s.now] } sv ms fb)) w' → ms[s.dirs.length]? = some m → NowAt w' fb m s.now → hsz w ≤ m → R (.map (some m)) w') : CALL PR F_disk_Disk_change [ptrTo d] w R := by
  refine C_disk_Disk_change ?_
  unfold M_disk_Disk_change
  refine dk_now h hw.ne hn fun sv ms fb m es ck L hs hm hf hmm b1 b2 b3 => ?_
  refine dk_clone b1 fun w2 c1 f2 z2 => ?_
  obtain ⟨A, h1, upd⟩ := hs.upd 3 rfl
  have hlt := (stars (dirHPs fb ms s.dirs)).lt h1
  have h2 := stars_snoc (Q := dirHP fb (hsz w) s.now) (G := [hsz w]) (dirHPs fb ms s.dirs) ((stars (dirHPs fb ms s.dirs)).fr h1 f2 (by simp)) ⟨⟨es, ck, L, c1, b2, b3⟩, rfl⟩ (fun c hc hc' => by simp at hc'; subst hc'; have := hlt _ hc; omega)
  have hz : dirHPs fb ms s.dirs ++ [dirHP fb (hsz w) s.now] = dirHPs fb (ms ++ [hsz w]) (s.dirs ++ [s.now]) := (zipWith_snoc _ _ _ _ _ hm).symm
  rw [hz] at h2
  have h5 := upd w2 (A ++ [hsz w]) (stars (dirHPs fb (ms ++ [hsz w]) (s.dirs ++ [s.now]))) h2 f2.nil (fun c hc => by
    rcases List.mem_append.1 hc with hc | hc
    · exact .inl hc
    · simp at hc; subst hc; exact .inr (Nat.le_refl _))
  unfold ptrTo
  obtain ⟨T, c⟩ := h5.cell (i := 1) rfl
  (repeat (first | (apply BND_ld c; exact rfl) | refine stp ?_ | (apply BND_inc; omega) | (apply BND_dec; omega) | refine BND_step (rfl : some _ = some _) ?_ | (apply cyes; first | assumption | omega) | (apply cno; first | assumption | omega) | refine (COND_true _ _).2 ?_ | refine (COND_false _ _).2 ?_ | simp (disch := first | assumption | omega) only [gs1, gs2, decide_true, decide_false, eq_self, beq_self_eq_true, Bool.not_true, Bool.not_false]))
  refine newone_step (enc := encM) (x := hsz w) encM_len rfl fun u w3 s3 f3 z3 => ?_
  have htl : ms.tail.length = ms.length - 1 := by simp
  refine (h5.fr0 f3).append (i := 2) rfl (s3.loads encM_len) encM_len encM_one rfl (by omega) (by rw [htl]; simp; omega) fun v' w4 h6 one6 => ?_
  (repeat (first | refine stp ?_ | (apply BND_inc; omega) | (apply BND_dec; omega) | refine BND_step (rfl : some _ = some _) ?_ | (apply cyes; first | assumption | omega) | (apply cno; first | assumption | omega) | refine (COND_true _ _).2 ?_ | refine (COND_false _ _).2 ?_ | simp (disch := first | assumption | omega) only [gs1, gs2, decide_true, decide_false, eq_self, beq_self_eq_true, Bool.not_true, Bool.not_false]))
  refine h6.store (i := 1) rfl one6 (by simp [dkC]) fun w5 h7 f7 => ?_
  have hne : ms ≠ [] := by
    intro e; subst e
    have := List.length_pos_iff.2 hw.ne
    simp at hm; omega
  have et : (ms ++ [hsz w]).tail = ms.tail ++ [hsz w] := by cases ms with
    | nil => exact absurd rfl hne
    | cons a r => rfl
  have eh : (ms ++ [hsz w]).headD 0 = ms.headD 0 := by cases ms with
    | nil => exact absurd rfl hne
    | cons a r => rfl
  have h8 : At w0 F0 (stars (dkL d { s with dirs := s.dirs ++ [s.now] } v' (ms ++ [hsz w]) fb)) w5 := by
    have := At.pure0 (b := (ms ++ [hsz w]).length = (s.dirs ++ [s.now]).length ∧ fb.length = s.files.length) h7 ⟨by simp [hm], hf⟩
    unfold dkL
    rw [et, eh]
    exact this
  have hget : (ms ++ [hsz w])[s.dirs.length]? = some (hsz w) := by rw [← hm, List.getElem?_append_right (Nat.le_refl _)]; simp
  refine hR w5 v' (ms ++ [hsz w]) fb (hsz w) h8 hget ?_ (Nat.le_refl _)
  have := dk_dir h8 (i := s.dirs.length) (l := s.now) hget (by simp)
  exact ⟨this⟩
theorem dk_named (n : ByteArray) (hR : ∀ w', Fr [] w w' → R (.bool (named n)) w') : CALL PR F_disk_named [.string n] w R := by
  refine C_disk_named ?_
  unfold M_disk_named
  unfold named at hR
  (repeat (first | refine stp ?_ | (apply BND_inc; omega) | (apply BND_dec; omega) | refine BND_step (rfl : some _ = some _) ?_ | (apply cyes; first | assumption | omega) | (apply cno; first | assumption | omega) | refine (COND_true _ _).2 ?_ | refine (COND_false _ _).2 ?_ | simp (disch := first | assumption | omega) only [gs1, gs2, decide_true, decide_false, eq_self, beq_self_eq_true, Bool.not_true, Bool.not_false]))
  by_cases h0 : n.size = 0
  · (repeat (first | refine stp ?_ | (apply BND_inc; omega) | (apply BND_dec; omega) | refine BND_step (rfl : some _ = some _) ?_ | (apply cyes; first | assumption | omega) | (apply cno; first | assumption | omega) | refine (COND_true _ _).2 ?_ | refine (COND_false _ _).2 ?_ | simp (disch := first | assumption | omega) only [gs1, gs2, decide_true, decide_false, eq_self, beq_self_eq_true, Bool.not_true, Bool.not_false]))
    have := hR _ (Fr.refl _ _)
    simpa [h0] using this
  by_cases h12 : 12 < n.size
  · (repeat (first | refine stp ?_ | (apply BND_inc; omega) | (apply BND_dec; omega) | refine BND_step (rfl : some _ = some _) ?_ | (apply cyes; first | assumption | omega) | (apply cno; first | assumption | omega) | refine (COND_true _ _).2 ?_ | refine (COND_false _ _).2 ?_ | simp (disch := first | assumption | omega) only [gs1, gs2, decide_true, decide_false, eq_self, beq_self_eq_true, Bool.not_true, Bool.not_false]))
    have := hR _ (Fr.refl _ _)
    simpa [show ¬ n.size ≤ 12 by omega] using this
  (repeat (first | refine stp ?_ | (apply BND_inc; omega) | (apply BND_dec; omega) | refine BND_step (rfl : some _ = some _) ?_ | (apply cyes; first | assumption | omega) | (apply cno; first | assumption | omega) | refine (COND_true _ _).2 ?_ | refine (COND_false _ _).2 ?_ | simp (disch := first | assumption | omega) only [gs1, gs2, decide_true, decide_false, eq_self, beq_self_eq_true, Bool.not_true, Bool.not_false]))
  have e0 : (decide (1 ≤ n.size) && decide (n.size ≤ 12)) = true := by simp; omega
  rw [e0, Bool.true_and] at hR
  refine ⟨n, rfl, fun c w1 hc hh hrest => ?_⟩
  have hsz1 : hsz w1 = hsz w := by unfold hsz; rw [hh]
  have hl : n.data.toList.length = n.size := Array.length_toList
  have f1 : Fr [] w (w1.alloc (.cells (n.data.map (fun b => Value.int .u8 b.toNat) ++ Array.replicate (c - n.size) (.int .u8 0)) 5 (c, c + 1))) := ⟨by simp [hsz1], fun b hb _ => by rw [blk_alloc_old (by omega), heap_ext hh], hrest.1, hrest.2.1, hrest.2.2⟩
  have ar : Arr encB 1 (w1.alloc (.cells (n.data.map (fun b => Value.int .u8 b.toNat) ++ Array.replicate (c - n.size) (.int .u8 0)) 5 (c, c + 1))) (.slice (some ⟨w1.heap.size, 0, .none⟩) n.size c) n.data.toList := by
    refine ⟨some ⟨w1.heap.size, 0, .none⟩, c, by rw [hl], .inr ⟨w1.heap.size, 0, _, _, _, rfl, blk_alloc_new _ _, fun i x hx => ⟨?_, fun j hj => ?_⟩⟩⟩
    · have hi := (List.getElem?_eq_some_iff.1 hx).1
      simp only [Array.size_append, Array.size_map, Array.size_replicate]
      have : n.data.size = n.size := rfl
      omega
    · obtain rfl : j = 0 := by omega
      have hi := (List.getElem?_eq_some_iff.1 hx).1
      rw [Array.getElem?_append_left (by simp; omega)]
      rw [Array.getElem?_toList] at hx
      simp [encB, hx]
  generalize w1.alloc (.cells (n.data.map (fun b => Value.int .u8 b.toNat) ++ Array.replicate (c - n.size) (.int .u8 0)) 5 (c, c + 1)) = w2 at f1 ar
  generalize (Value.slice (some ⟨w1.heap.size, 0, .none⟩) n.size c) = bv at ar
  (repeat (first | refine BND_step ar.len ?_ | refine stp ?_ | (apply BND_inc; omega) | (apply BND_dec; omega) | refine BND_step (rfl : some _ = some _) ?_ | (apply cyes; first | assumption | omega) | (apply cno; first | assumption | omega) | refine (COND_true _ _).2 ?_ | refine (COND_false _ _).2 ?_ | simp (disch := first | assumption | omega) only [gs1, gs2, decide_true, decide_false, eq_self, beq_self_eq_true, Bool.not_true, Bool.not_false]))
  refine loop_up 0 n.data.toList.length (fun i w' => w' = w2 ∧ (n.data.toList.take i).all okByte = true) ⟨rfl, rfl⟩ (by omega) ?_
  rintro i w5 - hi ⟨rfl, e⟩ J m hJ
  by_cases hlt : i < n.data.toList.length
  · have hx := List.getElem?_eq_getElem hlt
    generalize n.data.toList[i] = x at hx
    obtain ⟨b, o, ia, _, _, l1⟩ := ar.spot hx rfl .i64
    have l1' := l1 rfl (j := 0) rfl
    have yes : okByte x = true → J (.int .i64 ((i + 1 : Nat) : Int)) w5 ∧ m (.int .i64 ((i + 1 : Nat) : Int)) w5 < m (.int .i64 (i : Int)) w5 := fun hok => hJ w5 hlt ⟨rfl, by rw [List.take_add_one, hx, List.all_append, e]; simp [hok]⟩
    have no : okByte x = false → R (.bool false) w5 := fun hno => by
      have := hR w5 f1
      have e2 : n.data.toList.all okByte = false := by rw [List.all_eq_false]; exact ⟨x, List.mem_of_getElem? hx, by simp [hno]⟩
      rwa [e2] at this
    have hx46 : (x.toNat : Int) = 46 ↔ x = 46 := by
      rw [← UInt8.toNat_inj]; show (x.toNat : Int) = 46 ↔ x.toNat = 46; omega
    have h48 : 48 ≤ x ↔ (48 : Int) ≤ (x.toNat : Int) := by rw [UInt8.le_iff_toNat_le]; show 48 ≤ x.toNat ↔ _; omega
    have h57 : x ≤ 57 ↔ (x.toNat : Int) ≤ 57 := by rw [UInt8.le_iff_toNat_le]; show x.toNat ≤ 57 ↔ _; omega
    have h97 : 97 ≤ x ↔ (97 : Int) ≤ (x.toNat : Int) := by rw [UInt8.le_iff_toNat_le]; show 97 ≤ x.toNat ↔ _; omega
    have h122 : x ≤ 122 ↔ (x.toNat : Int) ≤ 122 := by rw [UInt8.le_iff_toNat_le]; show x.toNat ≤ 122 ↔ _; omega
    have hok : okByte x = true ↔ (x.toNat : Int) = 46 ∨ (48 ≤ (x.toNat : Int) ∧ (x.toNat : Int) ≤ 57) ∨ (97 ≤ (x.toNat : Int) ∧ (x.toNat : Int) ≤ 122) := by
      unfold okByte
      simp only [Bool.or_eq_true, Bool.and_eq_true, decide_eq_true_eq, h48, h57, h97, h122, hx46, or_assoc]
    have hno : okByte x = false ↔ ¬ ((x.toNat : Int) = 46 ∨ (48 ≤ (x.toNat : Int) ∧ (x.toNat : Int) ≤ 57) ∨ (97 ≤ (x.toNat : Int) ∧ (x.toNat : Int) ≤ 122)) := by
      rw [← hok]; simp
    generalize (x.toNat : Int) = z at *
    by_cases q1 : z = 46
    · (repeat (first | refine BND_step ia ?_ | (apply BND_step; exact l1') | refine stp ?_ | (apply BND_inc; omega) | (apply BND_dec; omega) | refine BND_step (rfl : some _ = some _) ?_ | (apply cyes; first | assumption | omega) | (apply cno; first | assumption | omega) | refine (COND_true _ _).2 ?_ | refine (COND_false _ _).2 ?_ | simp (disch := first | assumption | omega) only [gs1, gs2, decide_true, decide_false, eq_self, beq_self_eq_true, Bool.not_true, Bool.not_false]))
      exact yes (hok.2 (by omega))
    by_cases q2 : z < 48
    · by_cases q3 : z < 97
      · (repeat (first | refine BND_step ia ?_ | (apply BND_step; exact l1') | refine stp ?_ | (apply BND_inc; omega) | (apply BND_dec; omega) | refine BND_step (rfl : some _ = some _) ?_ | (apply cyes; first | assumption | omega) | (apply cno; first | assumption | omega) | refine (COND_true _ _).2 ?_ | refine (COND_false _ _).2 ?_ | simp (disch := first | assumption | omega) only [gs1, gs2, decide_true, decide_false, eq_self, beq_self_eq_true, Bool.not_true, Bool.not_false]))
        exact no (hno.2 (by omega))
      · (repeat (first | refine BND_step ia ?_ | (apply BND_step; exact l1') | refine stp ?_ | (apply BND_inc; omega) | (apply BND_dec; omega) | refine BND_step (rfl : some _ = some _) ?_ | (apply cyes; first | assumption | omega) | (apply cno; first | assumption | omega) | refine (COND_true _ _).2 ?_ | refine (COND_false _ _).2 ?_ | simp (disch := first | assumption | omega) only [gs1, gs2, decide_true, decide_false, eq_self, beq_self_eq_true, Bool.not_true, Bool.not_false]))
        omega
    by_cases q4 : 57 < z
    · by_cases q5 : z < 97
      · (repeat (first | refine BND_step ia ?_ | (apply BND_step; exact l1') | refine stp ?_ | (apply BND_inc; omega) | (apply BND_dec; omega) | refine BND_step (rfl : some _ = some _) ?_ | (apply cyes; first | assumption | omega) | (apply cno; first | assumption | omega) | refine (COND_true _ _).2 ?_ | refine (COND_false _ _).2 ?_ | simp (disch := first | assumption | omega) only [gs1, gs2, decide_true, decide_false, eq_self, beq_self_eq_true, Bool.not_true, Bool.not_false]))
        exact no (hno.2 (by omega))
      · by_cases q6 : 122 < z
        · (repeat (first | refine BND_step ia ?_ | (apply BND_step; exact l1') | refine stp ?_ | (apply BND_inc; omega) | (apply BND_dec; omega) | refine BND_step (rfl : some _ = some _) ?_ | (apply cyes; first | assumption | omega) | (apply cno; first | assumption | omega) | refine (COND_true _ _).2 ?_ | refine (COND_false _ _).2 ?_ | simp (disch := first | assumption | omega) only [gs1, gs2, decide_true, decide_false, eq_self, beq_self_eq_true, Bool.not_true, Bool.not_false]))
          exact no (hno.2 (by omega))
        · (repeat (first | refine BND_step ia ?_ | (apply BND_step; exact l1') | refine stp ?_ | (apply BND_inc; omega) | (apply BND_dec; omega) | refine BND_step (rfl : some _ = some _) ?_ | (apply cyes; first | assumption | omega) | (apply cno; first | assumption | omega) | refine (COND_true _ _).2 ?_ | refine (COND_false _ _).2 ?_ | simp (disch := first | assumption | omega) only [gs1, gs2, decide_true, decide_false, eq_self, beq_self_eq_true, Bool.not_true, Bool.not_false]))
          exact yes (hok.2 (by omega))
    · (repeat (first | refine BND_step ia ?_ | (apply BND_step; exact l1') | refine stp ?_ | (apply BND_inc; omega) | (apply BND_dec; omega) | refine BND_step (rfl : some _ = some _) ?_ | (apply cyes; first | assumption | omega) | (apply cno; first | assumption | omega) | refine (COND_true _ _).2 ?_ | refine (COND_false _ _).2 ?_ | simp (disch := first | assumption | omega) only [gs1, gs2, decide_true, decide_false, eq_self, beq_self_eq_true, Bool.not_true, Bool.not_false]))
      exact yes (hok.2 (by omega))
  · (repeat (first | refine stp ?_ | (apply BND_inc; omega) | (apply BND_dec; omega) | refine BND_step (rfl : some _ = some _) ?_ | (apply cyes; first | assumption | omega) | (apply cno; first | assumption | omega) | refine (COND_true _ _).2 ?_ | refine (COND_false _ _).2 ?_ | simp (disch := first | assumption | omega) only [gs1, gs2, decide_true, decide_false, eq_self, beq_self_eq_true, Bool.not_true, Bool.not_false]))
    rw [List.take_of_length_le (by omega)] at e
    have := hR w5 f1
    rwa [e] at this
end
end Go.Proofs.YtmefbneoljpbgaaGreatDoor
