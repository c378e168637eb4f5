/- Save, by the program: the walk. No condition but sizes. -/
import Derived.Test.YtkifjfjhghogjaaSnapSave
namespace Go.Proofs.Ytkifjfjhghogjaa
open Go.Den
set_option linter.unusedSimpArgs false
set_option linter.unusedVariables false

theorem fr_all {b o T : Nat} {w : World} {c : Array Value} {f : Nat × Nat} (h : blk w b = some (.cells c T f)) {v : Value} (hv : c[o]? = some v) : load1 w (.pointer (some ⟨b, o, none⟩)) = some v := by rw [load1_blk h, hv]
structure SvAt (w0 w : World) (W A I TA TI : Nat) (s : SnapL) (iv dv cv : Value) (ls : List LRec) (bad : Bool) : Prop where
  wr : ∃ L, Wr w W ls bad L ∧ (∀ b ∈ L, hsz w0 ≤ b) ∧ A ∉ L ∧ I ∉ L
  a : blk w A = some (.cells (stC s iv dv cv).toArray TA (0, 0))
  i : blk w I = some (.cells (snC s iv dv cv).toArray TI (0, 0))
  v : SnV w s iv dv cv
  fr : Fr [] w0 w
section
variable {w0 w w' : World} {W A I TA TI : Nat} {s : SnapL} {iv dv cv : Value} {ls : List LRec} {bad : Bool} {R : Value → World → Prop}
theorem SvAt.fr0 (h : SvAt w0 w W A I TA TI s iv dv cv ls bad) (hf : Fr [] w w') : SvAt w0 w' W A I TA TI s iv dv cv ls bad := by
  obtain ⟨L, h1, h2, h3, h4⟩ := h.wr
  exact ⟨⟨L, h1.fr0 hf, h2, h3, h4⟩, hf.some (by simp) h.a, hf.some (by simp) h.i, h.v.fr0 hf, h.fr.trans' hf⟩
theorem svn (h : SvAt w0 w W A I TA TI s iv dv cv ls bad) (h0 : SnV w0 s iv dv cv) {L : List Nat} (hf : Fr L w w') (hL : ∀ b ∈ L, hsz w0 ≤ b) : SnV w' s iv dv cv ∧ Fr [] w0 w' := by
  have f := h.fr.trans hf fun b hb => .inr (hL b hb)
  exact ⟨h0.fr0 f, f⟩
theorem SvAt.small (h : SvAt w0 w W A I TA TI s iv dv cv ls bad) (h0 : SnV w0 s iv dv cv) (n : Int) (hR : ∀ w', SvAt w0 w' W A I TA TI s iv dv cv ls (bad || !smallI n) → Fr [W] w w' → R (.int .u64 (u64w n)) w') :
    CALLV PR (.func (.func F_snap_writer_small) #[.pointer (some ⟨W, 0, none⟩)] #[]) [.int .i64 n] w R := by
  rw [CALLV_func (by kernel_rfl)]
  obtain ⟨L, h1, h2, h3, h4⟩ := h.wr
  refine sn_small h1 n fun w' g f => ?_
  have hW := h1.mem
  obtain ⟨x1, x2⟩ := svn h h0 f (fun b hb => by simp at hb; subst hb; exact h2 _ hW)
  exact hR w' ⟨⟨L, g, h2, h3, h4⟩, f.some (by simp; rintro rfl; exact h3 hW) h.a, f.some (by simp; rintro rfl; exact h4 hW) h.i, x1, x2⟩ f
theorem SvAt.put (h : SvAt w0 w W A I TA TI s iv dv cv ls bad) (h0 : SnV w0 s iv dv cv) (hn : ls.length < 1000000) (k : Int) (t : ByteArray) (ns : List Int) {E n : Nat} {zero : Array Value} {ps : List (Nat × Nat × Value)} (hl : n = ns.length) (hp : ps = partsAt 1 (fun x : Int => Value.int .u64 x) 0 ns)
    {K : World → Prop} (hK : ∀ w', SvAt w0 w' W A I TA TI s iv dv cv (ls ++ [⟨k, ns, t⟩]) (bad || !rightR k ns.length t.size) → K w') :
    BND (newslice E zero 1 n ps w) fun p => NEW p fun nv w1 => CALLV PR (.func (.func F_snap_writer_put) #[.pointer (some ⟨W, 0, none⟩)] #[]) [.int .i64 k, .string t, nv] w1 fun _ w2 => K w2 := by
  obtain ⟨L, h1, h2, h3, h4⟩ := h.wr
  refine newparts_step (enc := encU) encU_len (val := fun x : Int => Value.int .u64 x) (fun _ => rfl) ns hl hp fun nv w1 s1 f1 z1 => ?_
  rw [CALLV_func (by kernel_rfl)]
  have h' := h.fr0 f1
  refine sn_put (h1.fr0 f1) hn s1 (fun b hb hb' => ?_) k t fun w2 L' g sub f => hK w2 ?_
  · simp at hb; subst hb
    have := h1.lt _ hb'; omega
  · have hlow : ∀ b ∈ L', hsz w0 ≤ b := fun b hb => by
      rcases sub b hb with hx | hx
      · exact h2 b hx
      · have := h'.fr.grow; omega
    obtain ⟨x1, x2⟩ := svn h' h0 f h2
    refine ⟨⟨L', g, hlow, fun hb => ?_, fun hb => ?_⟩, f.some h3 h'.a, f.some h4 h'.i, x1, x2⟩
    · rcases sub _ hb with hx | hx
      · exact h3 hx
      · have := blk_lt h'.a; omega
    · rcases sub _ hb with hx | hx
      · exact h4 hx
      · have := blk_lt h'.i; omega
end
theorem right16 (n : Nat) : rightR 16 1 n = decide (n ≤ 64) := by
  unfold rightR worded
  by_cases h : n = 0
  · subst h; rfl
  · have : decide (n = 0) = false := by simp [h]
    rw [this]
    rfl

section
variable {w : World} {R : Value → World → Prop}
theorem sn_Save {s : SnapL} {iv dv cv : Value} (h : SnV w s iv dv cv) (hi : s.items.length < 100000) (hd : s.dead.length < 100000) (hc : s.curs.length < 100000)
    (hno : ∀ w', Fr [] w w' → okS s = false → R (.tuple #[.slice none 0 0, .int .i64 1]) w') (hyes : ∀ w' v, Fr [] w w' → okS s = true → RecsR w' v (saveL s) → R (.tuple #[v, .int .i64 0]) w') :
    CALL PR F_snap_Save [.agg (snC s iv dv cv).toArray] w R := by
  refine C_snap_Save ?_
  unfold M_snap_Save
  refine NEW_intro fun w1 b1 f1 z1 => BND_step (v := .agg #[.slice none 0 0, .bool false]) rfl <| NEW_intro fun w2 b2 f2 z2 => ?_
  have bI : blk w2 (hsz w) = some (.cells (snC s iv dv cv).toArray _ (0, 0)) := f2.some (by simp) b1
  have hl8 : loadn 8 w2 (.pointer (some ⟨hsz w, 0, none⟩)) = some (.agg (stC s iv dv cv).toArray) := by
    rw [loadn_blk bI (by simp [snC, stC])]
    rfl
  refine BND_step (faddr_ptr _ _ _) <| BND_step hl8 <| box_step (zs := [.int .u64 0, .int .u64 0, .int .u64 0, .int .u64 0, .int .u64 0, .slice none 0 0, .slice none 0 0, .slice none 0 0]) (vs := stC s iv dv cv) rfl rfl (stC_one h) (by simp [stC]) fun w4 bA f4 z4 => ?_
  have bI4 := f4.some (by simp) bI
  refine BND_step (faddr_ptr _ _ _) <| BND_step (v := .int .u64 s.now) (load1_blk bA) <| BND_step (faddr_ptr _ _ _) <| BND_step (v := .int .u64 s.next) (load1_blk bA) <| BND_step (faddr_ptr _ _ _) <| BND_step (v := .int .u64 s.leases) (load1_blk bA) <| BND_step (faddr_ptr _ _ _) <| BND_step (v := .int .u64 s.turns) (load1_blk bA) <| BND_step (faddr_ptr _ _ _) <| BND_step (v := .int .u64 s.deaths) (load1_blk bA) <|
    BND_step (faddr_ptr _ _ _) <| BND_step (v := .int .u64 s.seg) (load1_blk bI4) <| BND_step (faddr_ptr _ _ _) <| BND_step (v := .int .u64 s.at_) (load1_blk bI4) ?_
  have f04 : Fr [] w w4 := f1.trans' (f2.trans' f4)
  have hwr : Wr w4 (hsz w1) [] false [hsz w1] := ⟨.slice none 0 0, [], [], _, f4.some (by simp) b2, Slc.nil _ _ _, rfl, fun i r l hr => by simp at hr, rfl, by simp⟩
  have start : SvAt w w4 (hsz w1) (hsz w2) (hsz w) _ _ s iv dv cv [] false := ⟨⟨_, hwr, by simp; omega, by simp; omega, by simp; omega⟩, bA, bI4, h.fr0 f04, f04⟩
  refine start.put h (by simp) 13 ⟨#[]⟩ [s.now, s.next, s.leases, s.turns, s.deaths, s.seg, s.at_] rfl rfl fun w6 g6 => ?_
  have g6' : SvAt w w6 (hsz w1) (hsz w2) (hsz w) _ _ s iv dv cv [recB s] false := g6
  clear g6
  refine BND_step (faddr_ptr _ _ _) <| BND_step (v := iv) (load1_blk g6'.a) <| BND_step g6'.v.i.len ?_
  refine ⟨fun t w' => ∃ i : Nat, t = .int .i64 i ∧ i ≤ s.items.length ∧ SvAt w w' (hsz w1) (hsz w2) (hsz w) _ _ s iv dv cv (recB s :: (s.items.take i).map recI) (!(s.items.take i).all okI), fun t _ => match t with | .int _ n => s.items.length - n.toNat | _ => 0, ⟨0, rfl, by omega, g6'⟩, ?_⟩
  rintro _ _ w7 ⟨i, rfl, hil, g7⟩
  refine BND_step (binv_lss _ _ _ _) ?_
  by_cases hlt : i < s.items.length
  · refine COND_dec_true (by omega) ?_
    have hx := List.getElem?_eq_getElem hlt
    generalize s.items[i] = x at hx
    obtain ⟨p, ep, lp, _⟩ := g7.v.i.at hx rfl .i64
    refine BND_step ep <| BND_step lp <| box_step (zs := zItm) (vs := encI x) rfl rfl (encI_one x) (by simp [encI]) fun w9 b9 f9 z9 => ?_
    obtain ⟨TR, b9⟩ : ∃ T, blk w9 (hsz w7) = some (.cells (encI x).toArray T (0, 0)) := ⟨_, b9⟩
    have hl4 : loadn 4 w9 (.pointer (some ⟨hsz w7, 0 + 2, none⟩)) = some (.agg #[.int .i64 x.status, .int .i64 x.count, .int .u64 x.due, .int .u64 x.token]) := by
      rw [loadn_blk b9 (by simp [encI])]
      rfl
    refine BND_step (faddr_ptr _ _ _) <| BND_step hl4 <| box_step (zs := [.int .i64 0, .int .i64 0, .int .u64 0, .int .u64 0]) (vs := [.int .i64 x.status, .int .i64 x.count, .int .u64 x.due, .int .u64 x.token]) rfl rfl (by intro u hu; simp at hu; rcases hu with rfl | rfl | rfl | rfl <;> rfl) (by simp) fun w11 b11 f11 z11 => ?_
    obtain ⟨TL, b11⟩ : ∃ T, blk w11 (hsz w9) = some (.cells #[.int .i64 x.status, .int .i64 x.count, .int .u64 x.due, .int .u64 x.token] T (0, 0)) := ⟨_, b11⟩
    have g11 := ((g7.fr0 f9).fr0 f11).fr0 (Fr.drew [] w11)
    have b9d : blk w11.drew (hsz w7) = some (.cells (encI x).toArray TR (0, 0)) := f11.some (by simp) b9
    have b11d : blk w11.drew (hsz w9) = some (.cells #[.int .i64 x.status, .int .i64 x.count, .int .u64 x.due, .int .u64 x.token] TL (0, 0)) := b11
    have hW1 : hsz w7 ≠ hsz w1 := by obtain ⟨L, q, _⟩ := g7.wr; have := q.lt _ q.mem; omega
    have hW2 : hsz w9 ≠ hsz w1 := by obtain ⟨L, q, _⟩ := g7.wr; have := q.lt _ q.mem; have := f9.grow; omega
    generalize w11.drew = w12 at g11 b9d b11d
    refine ⟨fun k w' => if k = 2 ∨ k = 20 ∨ k = 23 ∨ k = 26 ∨ k = 30 then blk w' (hsz w7) = some (.cells (encI x).toArray TR (0, 0)) else blk w' (hsz w9) = some (.cells #[.int .i64 x.status, .int .i64 x.count, .int .u64 x.due, .int .u64 x.token] TL (0, 0)), ?_⟩
    simp only [Nat.reduceEqDiff, true_or, or_true, or_false, false_or, if_true, if_false, or_self]
    refine ⟨b9d, b11d, b11d, b11d, b11d, b9d, b9d, b9d, b9d, ?_⟩
    refine BND_step (faddr_ptr _ _ _) <| FLT.mk (.int .u64 x.id) (fun w' hw => load1_blk hw) <| BND_step (faddr_ptr _ _ _) <| BND_step (faddr_ptr _ _ _) <| FLT.mk (.int .i64 x.status) (fun w' hw => load1_blk hw) <| BND_step (faddr_ptr _ _ _) <| FLT.mk (.int .i64 x.count) (fun w' hw => load1_blk hw) <|
      BND_step (faddr_ptr _ _ _) <| FLT.mk (.int .u64 x.due) (fun w' hw => load1_blk hw) <| BND_step (faddr_ptr _ _ _) <| FLT.mk (.int .u64 x.token) (fun w' hw => load1_blk hw) <| BND_step (faddr_ptr _ _ _) <| FLT.mk (.int .u64 x.turn) (fun w' hw => load1_blk hw) <|
      BND_step (faddr_ptr _ _ _) <| BND_step (faddr_ptr _ _ _) <| FLT.mk (.int .u64 x.seg) (fun w' hw => load1_blk hw) <| BND_step (faddr_ptr _ _ _) <| BND_step (faddr_ptr _ _ _) <| FLT.mk (.int .u64 x.at_) (fun w' hw => load1_blk hw) <|
      BND_step (faddr_ptr _ _ _) <| BND_step (faddr_ptr _ _ _) <| FLT.mk (.int .i64 x.size) (fun w' hw => load1_blk hw) <| BND_step (v := .int .i64 x.lane) (load1_blk b9d) ?_
    have keep : ∀ {wa wb : World}, Fr [hsz w1] wa wb → blk wa (hsz w7) = some (.cells (encI x).toArray TR (0, 0)) → blk wa (hsz w9) = some (.cells #[.int .i64 x.status, .int .i64 x.count, .int .u64 x.due, .int .u64 x.token] TL (0, 0)) →
        blk wb (hsz w7) = some (.cells (encI x).toArray TR (0, 0)) ∧ blk wb (hsz w9) = some (.cells #[.int .i64 x.status, .int .i64 x.count, .int .u64 x.due, .int .u64 x.token] TL (0, 0)) :=
      fun f p q => ⟨f.some (by simpa using hW1) p, f.some (by simpa using hW2) q⟩
    refine g11.small h x.lane fun w13 g13 f13 => ?_
    obtain ⟨p13, q13⟩ := keep f13 b9d b11d
    refine ⟨p13, q13, q13, q13, q13, p13, p13, p13, p13, ?_⟩
    refine g13.small h x.status fun w14 g14 f14 => ?_
    obtain ⟨p14, q14⟩ := keep f14 p13 q13
    refine ⟨p14, q14, q14, q14, p14, p14, p14, p14, ?_⟩
    refine g14.small h x.count fun w15 g15 f15 => ?_
    obtain ⟨p15, q15⟩ := keep f15 p14 q14
    refine ⟨p15, q15, q15, p15, p15, p15, p15, ?_⟩
    refine g15.small h x.size fun w16 g16 f16 => ?_
    obtain ⟨p16, q16⟩ := keep f16 p15 q15
    refine ⟨p16, q16, q16, p16, p16, p16, ?_⟩
    refine g16.put h (by simp; omega) 14 ⟨#[]⟩ (recI x).ns rfl rfl fun w18 g18 => BND_step (Sort64.inc (by omega)) ⟨⟨i + 1, rfl, by omega, ?_⟩, by simp <;> omega⟩
    have e1 : recB s :: (s.items.take (i + 1)).map recI = recB s :: (s.items.take i).map recI ++ [⟨14, (recI x).ns, ⟨#[]⟩⟩] := by
      rw [List.take_add_one, hx]
      simp [recI]
    have e2 : (!(s.items.take (i + 1)).all okI) = (!(s.items.take i).all okI || !smallI x.lane || !smallI x.status || !smallI x.count || !smallI x.size || !rightR 14 (recI x).ns.length (ByteArray.mk #[]).size) := by
      rw [List.take_add_one, hx, List.all_append, show rightR 14 (recI x).ns.length (ByteArray.mk #[]).size = true from rfl]
      simp only [Option.toList, List.all_cons, List.all_nil, okI]
      cases (s.items.take i).all okI <;> cases smallI x.lane <;> cases smallI x.status <;> cases smallI x.count <;> cases smallI x.size <;> rfl
    rw [e1, e2]
    exact g18
  refine COND_dec_false (by omega) ?_
  rw [List.take_of_length_le (by omega)] at g7
  refine BND_step (faddr_ptr _ _ _) <| BND_step (v := dv) (load1_blk g7.a) <| BND_step g7.v.d.len ?_
  refine ⟨fun t w' => ∃ i : Nat, t = .int .i64 i ∧ i ≤ s.dead.length ∧ SvAt w w' (hsz w1) (hsz w2) (hsz w) _ _ s iv dv cv (recB s :: (s.items.map recI ++ (s.dead.take i).map recD)) (!s.items.all okI), fun t _ => match t with | .int _ n => s.dead.length - n.toNat | _ => 0, ⟨0, rfl, by omega, by simpa using g7⟩, ?_⟩
  rintro _ _ w18 ⟨i, rfl, hil, g18⟩
  refine BND_step (binv_lss _ _ _ _) ?_
  by_cases hlt : i < s.dead.length
  · refine COND_dec_true (by omega) ?_
    have hx := List.getElem?_eq_getElem hlt
    generalize s.dead[i] = x at hx
    obtain ⟨p, ep, lp, _⟩ := g18.v.d.at hx rfl .i64
    refine BND_step ep <| BND_step lp <| box_step (zs := [.int .u64 0, .int .u64 0]) (vs := encRow x) rfl rfl (encRow_one x) (by simp [encRow]) fun w20 b20 f20 z20 => ?_
    have g20 := g18.fr0 f20
    refine BND_step (faddr_ptr _ _ _) <| BND_step (v := .int .u64 x.1) (load1_blk b20) <| BND_step (faddr_ptr _ _ _) <| BND_step (v := .int .u64 x.2) (load1_blk b20) <| g20.put h (by simp; omega) 15 ⟨#[]⟩ [x.1, x.2] rfl rfl fun w22 g22 => BND_step (Sort64.inc (by omega)) ⟨⟨i + 1, rfl, by omega, ?_⟩, by simp <;> omega⟩
    have e1 : recB s :: (s.items.map recI ++ (s.dead.take (i + 1)).map recD) = recB s :: (s.items.map recI ++ (s.dead.take i).map recD) ++ [⟨15, [x.1, x.2], ⟨#[]⟩⟩] := by
      rw [List.take_add_one, hx]
      simp [recD]
    have e2 : (!s.items.all okI) = (!s.items.all okI || !rightR 15 [x.1, x.2].length (ByteArray.mk #[]).size) := by
      rw [show rightR 15 [x.1, x.2].length (ByteArray.mk #[]).size = true from rfl]
      cases s.items.all okI <;> rfl
    rw [e1, e2]
    exact g22
  refine COND_dec_false (by omega) ?_
  rw [List.take_of_length_le (by omega)] at g18
  refine BND_step (faddr_ptr _ _ _) <| BND_step (v := cv) (load1_blk g18.a) <| BND_step g18.v.c.len ?_
  refine ⟨fun t w' => ∃ i : Nat, t = .int .i64 i ∧ i ≤ s.curs.length ∧ SvAt w w' (hsz w1) (hsz w2) (hsz w) _ _ s iv dv cv (recB s :: (s.items.map recI ++ (s.dead.map recD ++ (s.curs.take i).map recC))) (!(s.items.all okI && (s.curs.take i).all (fun c => decide (c.1.size ≤ 64)))), fun t _ => match t with | .int _ n => s.curs.length - n.toNat | _ => 0,
    ⟨0, rfl, by omega, by simpa using g18⟩, ?_⟩
  rintro _ _ w23 ⟨i, rfl, hil, g23⟩
  refine BND_step (binv_lss _ _ _ _) ?_
  by_cases hlt : i < s.curs.length
  · refine COND_dec_true (by omega) ?_
    have hx := List.getElem?_eq_getElem hlt
    generalize s.curs[i] = x at hx
    obtain ⟨p, ep, lp, _⟩ := g23.v.c.at hx rfl .i64
    refine BND_step ep <| BND_step lp <| box_step (zs := [.string ByteArray.empty, .int .u64 0]) (vs := encC x) rfl rfl (encC_one x) (by simp [encC]) fun w25 b25 f25 z25 => ?_
    have g25 := g23.fr0 f25
    refine BND_step (faddr_ptr _ _ _) <| BND_step (v := .string x.1) (load1_blk b25) <| BND_step (faddr_ptr _ _ _) <| BND_step (v := .int .u64 x.2) (load1_blk b25) <| g25.put h (by simp; omega) 16 x.1 [x.2] rfl rfl fun w27 g27 => BND_step (Sort64.inc (by omega)) ⟨⟨i + 1, rfl, by omega, ?_⟩, by simp <;> omega⟩
    have e1 : recB s :: (s.items.map recI ++ (s.dead.map recD ++ (s.curs.take (i + 1)).map recC)) = recB s :: (s.items.map recI ++ (s.dead.map recD ++ (s.curs.take i).map recC)) ++ [⟨16, [x.2], x.1⟩] := by
      rw [List.take_add_one, hx]
      simp [recC]
    have e2 : (!(s.items.all okI && (s.curs.take (i + 1)).all (fun c => decide (c.1.size ≤ 64)))) = (!(s.items.all okI && (s.curs.take i).all (fun c => decide (c.1.size ≤ 64))) || !rightR 16 [x.2].length x.1.size) := by
      rw [List.take_add_one, hx, List.all_append, show [x.2].length = 1 from rfl, right16]
      simp only [Option.toList, List.all_cons, List.all_nil]
      cases s.items.all okI <;> cases (s.curs.take i).all (fun c => decide (c.1.size ≤ 64)) <;> cases decide (x.1.size ≤ 64) <;> rfl
    rw [e1, e2]
    exact g27
  refine COND_dec_false (by omega) ?_
  rw [List.take_of_length_le (by omega)] at g23
  have hok : (s.items.all okI && s.curs.all (fun c => decide (c.1.size ≤ 64))) = okS s := rfl
  rw [hok] at g23
  have hlen : (headL s).length = 1 + s.items.length + s.dead.length + s.curs.length := by simp [headL]; omega
  have g23' : SvAt w w23 (hsz w1) (hsz w2) (hsz w) _ _ s iv dv cv (headL s) (!okS s) := g23
  clear g23
  obtain ⟨L, q1, _⟩ := g23'.wr
  obtain ⟨lv, T, q2, q3⟩ := q1.recs
  have hcv : convi .u64 (.int .i64 ((headL s).length : Int)) = some (.int .u64 ((headL s).length : Int)) := by
    simp only [convi]
    rw [wrap_u64 (by omega) (by omega)]
  refine BND_step (nilchk_ptr _) <| BND_step (faddr_ptr _ _ _) <| BND_step (v := lv) (load1_blk q2) <| BND_step q3.len <| BND_step hcv <| g23'.put h (by omega) 17 ⟨#[]⟩ [((headL s).length : Int)] rfl rfl fun w29 g29 => ?_
  have e2 : (!okS s || !rightR 17 [((headL s).length : Int)].length (ByteArray.mk #[]).size) = !okS s := by
    rw [show rightR 17 [((headL s).length : Int)].length (ByteArray.mk #[]).size = true from rfl]
    cases okS s <;> rfl
  rw [e2] at g29
  obtain ⟨L, r1, _⟩ := g29.wr
  obtain ⟨lv, T, r2, r3⟩ := r1.recs
  refine BND_step (nilchk_ptr _) <| BND_step (faddr_ptr _ _ _) <| BND_step (v := .bool (!okS s)) (load1_blk r2) ?_
  cases hb : okS s with
  | false => exact (COND_true _ _).2 (hno w29 g29.fr hb)
  | true => exact (COND_false _ _).2 <| BND_step (nilchk_ptr _) <| BND_step (faddr_ptr _ _ _) <| BND_step (v := lv) (load1_blk r2) <| hyes w29 lv g29.fr hb r3
end
end Go.Proofs.Ytkifjfjhghogjaa
