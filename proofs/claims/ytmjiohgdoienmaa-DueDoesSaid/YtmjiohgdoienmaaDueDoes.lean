/- tumbrellaw07.DueDoes: the walk. Condition: the list reads as acts. -/
import Derived.Test.YtmjiohgdoienmaaDueRef
import Derived.Test.YtmjiohgdoienmaaM5
namespace Go.Proofs.Ytmjiohgdoienmaa
open Go.Den

theorem opt_uniq {S : List E} (h : (S.map (·.2)).Nodup) {e f : E} (he : e ∈ S) (hf : f ∈ S) (hid : e.2 = f.2) : e = f := by
  induction S with
  | nil => cases he
  | cons x r ih =>
    simp only [List.map_cons, List.nodup_cons] at h
    rcases List.mem_cons.1 he with h1 | h1
    · rcases List.mem_cons.1 hf with h2 | h2
      · rw [h1, h2]
      · exact absurd (List.mem_map.2 ⟨f, h2, by rw [← hid, h1]⟩) h.1
    · rcases List.mem_cons.1 hf with h2 | h2
      · exact absurd (List.mem_map.2 ⟨e, h1, by rw [hid, h2]⟩) h.1
      · exact ih h.2 h1 h2
theorem timeS_some {S : List E} (h : (S.map (·.2)).Nodup) {e : E} (he : e ∈ S) : timeS S e.2 = some e.1 := by
  unfold timeS
  cases hf : S.find? fun x => decide (x.2 = e.2) with
  | none => have := List.find?_eq_none.1 hf e he; simp at this
  | some f =>
    have h1 := List.find?_some hf
    simp only [decide_eq_true_eq] at h1
    rw [opt_uniq h (List.mem_of_find?_eq_some hf) he h1]; rfl
theorem timeS_none {S : List E} {id : Int} (h : id ∉ S.map (·.2)) : timeS S id = none := by
  unfold timeS
  cases hf : S.find? fun x => decide (x.2 = id) with
  | none => rfl
  | some f =>
    have h1 := List.find?_some hf
    simp only [decide_eq_true_eq] at h1
    exact absurd (List.mem_map.2 ⟨f, List.mem_of_find?_eq_some hf, h1⟩) h
def firstV (S : List E) : Value :=
  match S with
  | [] => .tuple #[.int .u64 0, .int .u64 0, .bool false]
  | e :: _ => .tuple #[.int .u64 e.2, .int .u64 e.1, .bool true]
theorem firstV_is (S : List E) : ∃ a b c, firstV S = .tuple #[.int .u64 a, .int .u64 b, .bool c] := by
  cases S with
  | nil => exact ⟨_, _, _, rfl⟩
  | cons e r => exact ⟨_, _, _, rfl⟩
def atV (S : List E) (id : Int) : Value := .tuple #[.int .u64 ((timeS S id).getD 0), .bool (timeS S id).isSome]
theorem due_FirstV {w : World} {hb : Nat} {S : List E} {F : List Nat} (h : DueOwn w hb S F) {R : Value → World → Prop} (hR : ∀ w', Fr [] w w' → R (firstV S) w') : CALL PR F_due_Heap_First [.pointer (some ⟨hb, 0, none⟩)] w R := by
  refine due_First h (fun h0 => ?_) fun e r hS => ?_
  · have := hR w (Fr.refl _ _); rw [h0] at this; exact this
  · have := hR _ (Fr.drew _ _); rw [hS] at this; exact this
theorem ref_FirstV {w : World} {rb : Nat} {S : List E} {F : List Nat} (h : RefOwn w rb S F) {R : Value → World → Prop} (hR : ∀ w', Fr [] w w' → R (firstV S) w') : CALL PR F_tumbrelref07_Heap_First [.pointer (some ⟨rb, 0, none⟩)] w R := by
  refine ref_First h (fun h0 => ?_) fun e r hS => ?_
  · have := hR w (Fr.refl _ _); rw [h0] at this; exact this
  · have := hR _ (Fr.drew _ _); rw [hS] at this; exact this
theorem due_AtV {w : World} {hb : Nat} {S : List E} {F : List Nat} (h : DueOwn w hb S F) (id : Int) {R : Value → World → Prop} (hR : R (atV S id) w) : CALL PR F_due_Heap_At [.pointer (some ⟨hb, 0, none⟩), .int .u64 id] w R := by
  refine due_At h id (fun hn => ?_) fun e he hid => ?_
  · unfold atV at hR; rw [timeS_none hn] at hR; exact hR
  · subst hid; unfold atV at hR; rw [timeS_some h.ids he] at hR; exact hR
theorem ref_AtV {w : World} {rb : Nat} {S : List E} {F : List Nat} (h : RefOwn w rb S F) (hids : (S.map (·.2)).Nodup) (hn : S.length < 1000000000) (id : Int) {R : Value → World → Prop} (hR : R (atV S id) w) :
    CALL PR F_tumbrelref07_Heap_At [.pointer (some ⟨rb, 0, none⟩), .int .u64 id] w R := by
  refine ref_At h hn id (fun hn => ?_) fun e he hid => ?_
  · unfold atV at hR; rw [timeS_none hn] at hR; exact hR
  · subst hid; unfold atV at hR; rw [timeS_some hids he] at hR; exact hR

theorem due_does {w : World} {v : Value} {xs : List Act} {id : Int} (hA : Arr encA 3 w v xs) {R : Value → World → Prop}
    (hR : ∀ w', Fr [] w w' → R (.bool true) w') : CALL PR F_tumbrellaw07_DueDoes [v, .int .u64 id] w R := by
  refine C_tumbrellaw07_DueDoes ?_
  unfold M_tumbrellaw07_DueDoes
  refine due_awake fun w1 f1 => ?_
  refine BND_step (unv_not _) <| (COND_false _ _).2 ?_
  have hA1 := hA.fr f1 (by simp)
  refine BND_step hA.len <| BND_step (binv_gtr _ _ _ _) ?_
  by_cases hlen : 200 < xs.length
  · exact COND_dec_true (by omega) (hR w1 f1)
  refine COND_dec_false (by omega) ?_
  refine due_New fun w2 hb F2 O2 f2 n2 => ?_
  have n2' : ∀ b ∈ F2, hsz w ≤ b := fun b hb' => Nat.le_trans f1.grow (n2 b hb')
  refine BND_step (v := .agg #[.slice none 0 0]) rfl ?_
  refine NEW_intro fun w3 b3 f3 z3 => ?_
  have g2 := f1.trans' f2
  have g3 := g2.trans' f3
  have hrb : ∀ b ∈ F2, b ≠ hsz w2 := fun b hb' e => by have := O2.lt b hb'; omega
  generalize hrbd : hsz w2 = rb at *
  have hrbn : hsz w ≤ rb := by have := g2.grow; omega
  have O3 := O2.fr f3 (by simp)
  have P3 : RefOwn w3 rb [] [rb] := ⟨_, [], _, b3, .inl ⟨rfl, rfl, rfl⟩, rfl, by simp⟩
  refine BND_step hA.len ?_
  refine ⟨fun u w' => ∃ (i : Nat) (T : List E) (F G : List Nat), u = .int .i64 i ∧ i ≤ xs.length ∧ T.length ≤ i ∧ DueOwn w' hb T F ∧ RefOwn w' rb T G ∧ Fr [] w w' ∧ (∀ b ∈ F, hsz w ≤ b) ∧ (∀ b ∈ G, hsz w ≤ b) ∧ (∀ b ∈ F, b ∉ G),
    fun t _ => match t with | .int _ n => xs.length - n.toNat | _ => 0,
    ⟨0, [], F2, [rb], rfl, by omega, by simp, O3, P3, g3, n2', by simpa using hrbn, fun b h1 h2 => by simp at h2; exact hrb b h1 h2⟩, ?_⟩
  rintro _ _ w4 ⟨i, T, F, G, rfl, hi, hT, O4, P4, f4, nF, nG, dj⟩
  refine BND_step (binv_lss _ _ _ _) ?_
  by_cases hlt : i < xs.length
  rotate_left
  · exact COND_dec_false (by omega) (hR w4 f4)
  refine COND_dec_true (by omega) ?_
  have hx := List.getElem?_eq_getElem hlt
  generalize xs[i] = a at hx
  obtain ⟨p, hp1, hp2, _⟩ := (hA.fr f4 (by simp)).at hx rfl .i64
  refine BND_step hp1 <| BND_step hp2 ?_
  refine box_step (zs := [_, _, _]) (vs := encA a) rfl rfl (encA_one a) (by simp [encA]) fun w6 b6 f6 z6 => ?_
  generalize hab : hsz w4 = ab at *
  have hAF : ab ∉ F := fun h => by have := O4.lt _ h; omega
  have hAG : ab ∉ G := fun h => by have := P4.lt _ h; omega
  have hAn : hsz w ≤ ab := by have := f4.grow; omega
  have O6 := O4.fr f6 (by simp)
  have P6 := P4.fr f6 (by simp)
  have f46 := f4.trans' f6
  refine BND_step (faddr_ptr _ _ _) <| BND_step (v := .int .i64 a.1) (by rw [load1_blk b6]; rfl) <| BND_step (binv_eql _ _ _ _) ?_
  refine JOIN_elim fun K hK => ?_
  -- what comes behind an act
  have rest : ∀ (w7 : World) (T : List E) (F G : List Nat), T.length ≤ i + 1 → DueOwn w7 hb T F → RefOwn w7 rb T G → Fr [] w w7 → (∀ b ∈ F, hsz w ≤ b) → (∀ b ∈ G, hsz w ≤ b) → (∀ b ∈ F, b ∉ G) → K (.bool true) w7 := by
    intro w7 T F G hT O7 P7 f7 nF nG dj
    rw [hK]
    refine due_FirstV O7 fun w8 f8 => ?_
    obtain ⟨x1, x2, x3, hx⟩ := firstV_is T
    rw [hx]
    refine BND_step (v := .int .u64 x1) rfl <| BND_step (v := .int .u64 x2) rfl <| BND_step (v := .bool x3) rfl ?_
    have O8 := O7.fr f8 (by simp)
    have P8 := P7.fr f8 (by simp)
    refine ref_FirstV P8 fun w9 f9 => ?_
    rw [hx]
    refine BND_step (v := .int .u64 x1) rfl <| BND_step (v := .int .u64 x2) rfl <| BND_step (v := .bool x3) rfl ?_
    have O9 := O8.fr f9 (by simp)
    have P9 := P8.fr f9 (by simp)
    refine due_AtV O9 id ?_
    unfold atV
    generalize hy1 : (timeS T id).getD 0 = y1
    generalize hy2 : (timeS T id).isSome = y2
    refine BND_step (v := .int .u64 y1) rfl <| BND_step (v := .bool y2) rfl ?_
    refine ref_AtV P9 O9.ids (by omega) id ?_
    unfold atV
    rw [hy1, hy2]
    refine BND_step (v := .int .u64 y1) rfl <| BND_step (v := .bool y2) rfl ?_
    have O10 := O9.fr (Fr.drew [] w9) (by simp)
    have P10 := P9.fr (Fr.drew [] w9) (by simp)
    have f10 := ((f7.trans' f8).trans' f9).trans' (Fr.drew [] w9)
    generalize w9.drew = w10 at *
    have P10c := P10
    obtain ⟨sv, Fa, Tn, q1, q2, hG, q3⟩ := P10c
    refine ⟨fun w' => blk w' rb = some (.cells #[sv] Tn (0, 0)), q1, ?_⟩
    simp only [unv_not, Bool.not_true, BND_some, isB_ff, grd_true, binv_neq, decide_true, pickv_false, binv_neb, bne_self_eq_false, nilchk_ptr, faddr_ptr, GEF_true]
    refine FLT.mk sv (fun w hw => (load1_blk hw).trans rfl) ?_
    refine BND_step q2.len ?_
    refine due_Len O10 ?_
    refine ⟨q1, ?_⟩
    simp only [binv_neq, decide_true, Bool.not_true, BND_some, COND_false, binv_add, add_one (show i < 1000000000 by omega)]
    exact ⟨⟨i + 1, T, F, G, rfl, hlt, hT, O10, P10, f10, nF, nG, dj⟩, by simp; omega⟩
  -- both have done it
  have fin : ∀ {w5 w7 w8 : World} {T' : List E} {F' G' : List Nat}, Fr [] w w5 → DueOwn w5 hb T F → RefOwn w5 rb T G → T'.length ≤ i + 1 → DueOwn w7 hb T' F' → Fr F w5 w7 → (∀ b ∈ F', b ∈ F ∨ hsz w5 ≤ b) →
      RefOwn w8 rb T' G' → Fr G w7 w8 → (∀ b ∈ G', b ∈ G ∨ hsz w7 ≤ b) → K (.bool true) w8 := by
    intro w5 w7 w8 T' F' G' f5 O5 P5 hT' O7 f7 s7 P8 f8 s8
    have dj1 : ∀ b ∈ F', b ∉ G := fun b h1 h2 => (s7 b h1).elim (fun h => dj b h h2) (fun h => by have := P5.lt b h2; omega)
    have g7 : Fr [] w w7 := f5.trans f7 fun b hb' => .inr (nF b hb')
    refine rest w8 T' F' G' hT' (O7.fr f8 dj1) P8 (g7.trans f8 fun b hb' => .inr (nG b hb')) (fun b hb' => (s7 b hb').elim (nF b) (fun h => Nat.le_trans f5.grow h)) (fun b hb' => (s8 b hb').elim (nG b) (fun h => Nat.le_trans g7.grow h)) ?_
    intro b h1 h2
    rcases s8 b h2 with h | h
    · exact dj1 b h1 h
    · have := O7.lt b h1; omega
  have refl' : ∀ {F : List Nat} {n : Nat}, ∀ b ∈ F, b ∈ F ∨ n ≤ b := fun b hb' => .inl hb'
  have djs : ∀ b ∈ G, b ∉ F := fun b h1 h2 => dj b h2 h1
  have hle : ∀ (j : Int), (remS T j).length ≤ T.length := fun j => List.length_filter_le _ _
  by_cases h0 : a.1 = 0
  · refine COND_dec_true h0 ?_
    have f5 := f46.trans' (Fr.drew [] w6)
    have O5 := O6.fr (Fr.drew [] w6) (by simp)
    have P5 := P6.fr (Fr.drew [] w6) (by simp)
    have b5 := (Fr.drew [] w6).some (by simp) b6
    generalize w6.drew = w5 at *
    refine ⟨fun w' => blk w' ab = blk w5 ab, rfl, ?_⟩
    refine BND_step (faddr_ptr _ _ _) <| BND_step (faddr_ptr _ _ _) <| BND_step (faddr_ptr _ _ _) <| FLT.mk (.int .u64 a.2.1) (fun w hw => by rw [load1_blk (hw.trans b5)]; rfl) <| BND_step (faddr_ptr _ _ _) <|
      FLT.mk (.int .u64 a.2.2) (fun w hw => by rw [load1_blk (hw.trans b5)]; rfl) <| BND_step (v := .int .u64 a.2.1) (by rw [load1_blk b5]; rfl) <| BND_step (v := .int .u64 a.2.2) (by rw [load1_blk b5]; rfl) ?_
    refine due_Put O5 (by omega) _ _ (fun hin => ?_) (fun hni w7 F7 O7 f7 s7 => ?_)
    · refine ⟨rfl, ?_⟩
      refine ref_Put P5 (by omega) _ _ (fun _ => ?_) (fun hni => absurd hin hni)
      exact BND_step (v := .bool true) rfl (fin f5 O5 P5 (by omega) O5 (Fr.refl _ _) refl' P5 (Fr.refl _ _) refl')
    · refine ⟨f7.keep ab (blk_lt b5) hAF, ?_⟩
      refine ref_Put (P5.fr f7 djs) (by omega) _ _ (fun hin => absurd hin hni) (fun _ w8 G8 P8 f8 s8 => ?_)
      exact BND_step (v := .bool true) rfl (fin f5 O5 P5 (by rw [insS_len]; omega) O7 f7 s7 P8 f8 s8)
  refine COND_dec_false h0 ?_
  refine BND_step (binv_eql _ _ _ _) ?_
  refine JOIN_elim fun K2 hK2 => ?_
  by_cases h1 : a.1 = 1
  · refine COND_dec_true h1 ?_
    refine BND_step (faddr_ptr _ _ _) <| BND_step (v := .int .u64 a.2.2) (by rw [load1_blk b6]; rfl) ?_
    have hfin : ∀ {w7 w8 : World} {T' : List E} {F' G' : List Nat}, T'.length ≤ i + 1 → DueOwn w7 hb T' F' → Fr F w6 w7 → (∀ b ∈ F', b ∈ F ∨ hsz w6 ≤ b) →
      RefOwn w8 rb T' G' → Fr G w7 w8 → (∀ b ∈ G', b ∈ G ∨ hsz w7 ≤ b) → K2 (.bool true) w8 := fun q1 q2 q3 q4 q5 q6 q7 => by rw [hK2]; exact fin f46 O6 P6 q1 q2 q3 q4 q5 q6 q7
    refine due_Take O6 (by omega) _ (fun w7 hc O7 f7 => ?_) (fun e r hT2 hle2 w7 O7 f7 => ?_)
    · have b7 := f7.some hAF b6
      refine BND_step (v := .int .u64 0) rfl <| BND_step (v := .int .u64 0) rfl <| BND_step (v := .bool false) rfl <| BND_step (faddr_ptr _ _ _) <| BND_step (v := .int .u64 a.2.2) (by rw [load1_blk b7]; rfl) ?_
      refine ref_Take (P6.fr f7 djs) O7.ids (by omega) _ (fun w8 _ P8 f8 => ?_) (fun e r hT2 hle2 => ?_)
      · refine BND_step (v := .int .u64 0) rfl <| BND_step (v := .int .u64 0) rfl <| BND_step (v := .bool false) rfl ?_
        simp only [binv_eql, decide_true, BND_some, isB_tt, grd_true, pickv_true, binv_eqb, BEq.rfl]
        exact hfin (by omega) O7 f7 refl' P8 f8 refl'
      · rcases hc with hc | ⟨e', r', hc, hlt'⟩
        · rw [hc] at hT2; cases hT2
        · rw [hc] at hT2; cases hT2; omega
    · have b7 := f7.some hAF b6
      refine BND_step (v := .int .u64 e.2) rfl <| BND_step (v := .int .u64 e.1) rfl <| BND_step (v := .bool true) rfl <| BND_step (faddr_ptr _ _ _) <| BND_step (v := .int .u64 a.2.2) (by rw [load1_blk b7]; rfl) ?_
      refine ref_Take (P6.fr f7 djs) O6.ids (by omega) _ (fun w8 hc P8 f8 => ?_) (fun e' r' hT3 _ w8 G8 P8 f8 s8 => ?_)
      · rcases hc with hc | ⟨e', r', hc, hlt'⟩
        · rw [hc] at hT2; cases hT2
        · rw [hc] at hT2; cases hT2; omega
      · rw [hT2] at hT3
        cases hT3
        refine BND_step (v := .int .u64 e.2) rfl <| BND_step (v := .int .u64 e.1) rfl <| BND_step (v := .bool true) rfl ?_
        simp only [binv_eql, decide_true, BND_some, isB_tt, grd_true, pickv_true, binv_eqb, BEq.rfl]
        exact hfin (by have := congrArg List.length hT2; simp at this; omega) O7 f7 refl' P8 f8 s8
  refine COND_dec_false h1 ?_
  refine BND_step (binv_eql _ _ _ _) ?_
  refine JOIN_elim fun K3 hK3 => ?_
  have f5 := f46.trans' (Fr.drew [] w6)
  have O5 := O6.fr (Fr.drew [] w6) (by simp)
  have P5 := P6.fr (Fr.drew [] w6) (by simp)
  have b5 := (Fr.drew [] w6).some (by simp) b6
  have hk3 : ∀ w, K (.bool true) w → K3 (.bool true) w := fun w h => by rw [hK3, hK2]; exact h
  by_cases h2 : a.1 = 2
  · refine COND_dec_true h2 ?_
    generalize w6.drew = w5 at *
    refine ⟨fun w' => blk w' ab = blk w5 ab, rfl, ?_⟩
    refine BND_step (faddr_ptr _ _ _) <| BND_step (faddr_ptr _ _ _) <| FLT.mk (.int .u64 a.2.1) (fun w hw => by rw [load1_blk (hw.trans b5)]; rfl) <| BND_step (v := .int .u64 a.2.1) (by rw [load1_blk b5]; rfl) ?_
    refine due_Drop O5 (by omega) _ (fun hni => ?_) (fun hin w7 O7 f7 => ?_)
    · refine ⟨rfl, ?_⟩
      refine ref_Drop P5 O5.ids (by omega) _ (fun _ => ?_) (fun hin => absurd hin hni)
      exact BND_step (v := .bool true) rfl (hk3 _ (fin f5 O5 P5 (by omega) O5 (Fr.refl _ _) refl' P5 (Fr.refl _ _) refl'))
    · refine ⟨f7.keep ab (blk_lt b5) hAF, ?_⟩
      refine ref_Drop (P5.fr f7 djs) O5.ids (by omega) _ (fun hni => absurd hin hni) (fun _ w8 G8 P8 f8 s8 => ?_)
      exact BND_step (v := .bool true) rfl (hk3 _ (fin f5 O5 P5 (by have := hle a.2.1; omega) O7 f7 refl' P8 f8 s8))
  refine COND_dec_false h2 ?_
  refine BND_step (binv_eql _ _ _ _) ?_
  refine JOIN_elim fun K4 hK4 => ?_
  have hk4 : ∀ w, K (.bool true) w → K4 (.bool true) w := fun w h => by rw [hK4]; exact hk3 w h
  by_cases h3 : a.1 = 3
  · refine COND_dec_true h3 ?_
    generalize w6.drew = w5 at *
    refine ⟨fun w' => blk w' ab = blk w5 ab, rfl, ?_⟩
    refine BND_step (faddr_ptr _ _ _) <| BND_step (faddr_ptr _ _ _) <| BND_step (faddr_ptr _ _ _) <| FLT.mk (.int .u64 a.2.1) (fun w hw => by rw [load1_blk (hw.trans b5)]; rfl) <| BND_step (faddr_ptr _ _ _) <|
      FLT.mk (.int .u64 a.2.2) (fun w hw => by rw [load1_blk (hw.trans b5)]; rfl) <| BND_step (v := .int .u64 a.2.1) (by rw [load1_blk b5]; rfl) <| BND_step (v := .int .u64 a.2.2) (by rw [load1_blk b5]; rfl) ?_
    refine due_Move O5 (by omega) _ _ (fun hni => ?_) (fun hin w7 O7 f7 => ?_)
    · refine ⟨rfl, ?_⟩
      refine ref_Move P5 O5.ids (by omega) _ _ (fun _ => ?_) (fun hin => absurd hin hni)
      exact BND_step (v := .bool true) rfl (hk4 _ (fin f5 O5 P5 (by omega) O5 (Fr.refl _ _) refl' P5 (Fr.refl _ _) refl'))
    · refine ⟨f7.keep ab (blk_lt b5) hAF, ?_⟩
      refine ref_Move (P5.fr f7 djs) O5.ids (by omega) _ _ (fun hni => absurd hin hni) (fun _ w8 G8 P8 f8 s8 => ?_)
      exact BND_step (v := .bool true) rfl (hk4 _ (fin f5 O5 P5 (by rw [insS_len]; have := hle a.2.1; omega) O7 f7 refl' P8 f8 s8))
  refine COND_dec_false h3 ?_
  exact hk4 _ (fin f46 O6 P6 (by omega) O6 (Fr.refl _ _) refl' P6 (Fr.refl _ _) refl')

end Go.Proofs.Ytmjiohgdoienmaa
