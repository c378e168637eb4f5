/- Save: the records of any snapshot, or that there are none: by the program. No condition but sizes. -/
import Derived.Test.YtkifjfjhghogjaaSnapBase
import Derived.Test.YtkifjfjhghogjaaMa
namespace Go.Proofs.Ytkifjfjhghogjaa
open Go.Den
set_option linter.unusedSimpArgs false
set_option linter.unusedVariables false

/-! ## Plain -/
structure SnapL where
  now : Int
  next : Int
  leases : Int
  turns : Int
  deaths : Int
  items : List Itm
  dead : List Row
  curs : List Cur
  seg : Int
  at_ : Int
  deriving DecidableEq
def u64w (n : Int) : Int := IntKind.u64.wrap n
def smallI (n : Int) : Bool := decide (0 ≤ n) && decide (n ≤ 1000)
def okI (x : Itm) : Bool := smallI x.lane && smallI x.status && smallI x.count && smallI x.size
def recI (x : Itm) : LRec := ⟨14, [x.id, u64w x.lane, u64w x.status, u64w x.count, x.due, x.token, x.turn, x.seg, x.at_, u64w x.size], ⟨#[]⟩⟩
def recD (x : Row) : LRec := ⟨15, [x.1, x.2], ⟨#[]⟩⟩
def recC (x : Cur) : LRec := ⟨16, [x.2], x.1⟩
def recB (s : SnapL) : LRec := ⟨13, [s.now, s.next, s.leases, s.turns, s.deaths, s.seg, s.at_], ⟨#[]⟩⟩
def recE (n : Nat) : LRec := ⟨17, [(n : Int)], ⟨#[]⟩⟩
def headL (s : SnapL) : List LRec := recB s :: (s.items.map recI ++ (s.dead.map recD ++ s.curs.map recC))
def saveL (s : SnapL) : List LRec := headL s ++ [recE (headL s).length]
def okS (s : SnapL) : Bool := s.items.all okI && s.curs.all (fun c => decide (c.1.size ≤ 64))

/-! ## Memory -/
def stC (s : SnapL) (iv dv cv : Value) : List Value := [.int .u64 s.now, .int .u64 s.next, .int .u64 s.leases, .int .u64 s.turns, .int .u64 s.deaths, iv, dv, cv]
def snC (s : SnapL) (iv dv cv : Value) : List Value := stC s iv dv cv ++ [.int .u64 s.seg, .int .u64 s.at_]
structure SnV (w : World) (s : SnapL) (iv dv cv : Value) : Prop where
  i : Arr encI 10 w iv s.items
  d : Arr encRow 2 w dv s.dead
  c : Arr encC 2 w cv s.curs
theorem arr_one {α : Type} {enc : α → List Value} {sz : Nat} {w : World} {v : Value} {xs : List α} (h : Arr enc sz w v xs) : v.oneCell' = true := by
  obtain ⟨a, c, rfl, _⟩ := h; rfl
theorem SnV.fr {w w' : World} {s : SnapL} {iv dv cv : Value} (h : SnV w s iv dv cv) {F : List Nat} (hf : Fr F w w') (hF : ∀ b ∈ F, hsz w ≤ b) : SnV w' s iv dv cv := ⟨h.i.fr hf hF, h.d.fr hf hF, h.c.fr hf hF⟩
theorem SnV.fr0 {w w' : World} {s : SnapL} {iv dv cv : Value} (h : SnV w s iv dv cv) (hf : Fr [] w w') : SnV w' s iv dv cv := h.fr hf (by simp)
theorem stC_one {w : World} {s : SnapL} {iv dv cv : Value} (h : SnV w s iv dv cv) : ∀ u ∈ stC s iv dv cv, u.oneCell' = true := by
  intro u hu
  simp only [stC, List.mem_cons, List.not_mem_nil, or_false] at hu
  rcases hu with rfl | rfl | rfl | rfl | rfl | rfl | rfl | rfl
  · rfl
  · rfl
  · rfl
  · rfl
  · rfl
  · exact arr_one h.i
  · exact arr_one h.d
  · exact arr_one h.c
theorem snC_one {w : World} {s : SnapL} {iv dv cv : Value} (h : SnV w s iv dv cv) : ∀ u ∈ snC s iv dv cv, u.oneCell' = true := by
  intro u hu
  unfold snC at hu
  rcases List.mem_append.1 hu with hu | hu
  · exact stC_one h u hu
  · simp at hu; rcases hu with rfl | rfl <;> rfl

/-- the writer's object: its records, whether one was bad. -/
def Wr (w : World) (W : Nat) (ls : List LRec) (bad : Bool) (L : List Nat) : Prop :=
  ∃ lv rs F T, blk w W = some (.cells #[lv, .bool bad] T (0, 0)) ∧ Slc encR 3 w lv rs F ∧ rs.length = ls.length ∧
    (∀ (i : Nat) r l, rs[i]? = some r → ls[i]? = some l → r.k = l.k ∧ r.t = l.t ∧ ∃ G, Slc encU 1 w r.nv l.ns G ∧ ∀ b ∈ G, b ∉ L) ∧ L = W :: F ∧ W ∉ F
section
variable {w w' : World} {W : Nat} {ls : List LRec} {bad : Bool} {L : List Nat} {R : Value → World → Prop}
theorem Wr.fr0 (h : Wr w W ls bad L) (hf : Fr [] w w') : Wr w' W ls bad L := by
  obtain ⟨lv, rs, F, T, h1, h2, h3, h4, rfl, h6⟩ := h
  exact ⟨lv, rs, F, T, hf.some (by simp) h1, h2.fr hf (by simp), h3, fun i r l hr hl => by
    obtain ⟨a, b, G, c, d⟩ := h4 i r l hr hl
    exact ⟨a, b, G, c.fr hf (by simp), d⟩, rfl, h6⟩
theorem Wr.lt (h : Wr w W ls bad L) : ∀ b ∈ L, b < hsz w := by
  obtain ⟨lv, rs, F, T, h1, h2, h3, h4, rfl, h6⟩ := h
  intro b hb
  rcases List.mem_cons.1 hb with rfl | hb
  · exact blk_lt h1
  · exact h2.lt b hb
theorem Wr.mem (h : Wr w W ls bad L) : W ∈ L := by
  obtain ⟨lv, rs, F, T, h1, h2, h3, h4, rfl, h6⟩ := h
  simp
theorem Wr.recs (h : Wr w W ls bad L) : ∃ lv T, blk w W = some (.cells #[lv, .bool bad] T (0, 0)) ∧ RecsR w lv ls := by
  obtain ⟨lv, rs, F, T, h1, h2, h3, h4, rfl, h6⟩ := h
  refine ⟨lv, T, h1, rs, h2.arr, h3, fun i r l hr hl => ?_, h2.capd⟩
  obtain ⟨a, b, G, c, _⟩ := h4 i r l hr hl
  exact ⟨a, b, c.arr⟩
/-- whether one was bad is set. -/
theorem Wr.setBad (h : Wr w W ls bad L) (bad' : Bool) : ∃ w', storev 1 w (.pointer (some ⟨W, 1, none⟩)) (.bool bad') = some w' ∧ Wr w' W ls bad' L ∧ Fr [W] w w' := by
  obtain ⟨lv, rs, F, T, h1, h2, h3, h4, rfl, h6⟩ := h
  have f : Fr [W] w (setB w W (.cells (#[lv, .bool bad].setIfInBounds 1 (.bool bad')) T (0, 0))) := Fr.setB (.inl (by simp)) _
  refine ⟨_, storev1_blk h1 (by simp) rfl rfl, ⟨lv, rs, F, T, blk_setB_same h1, h2.fr f (fun b hb => by simp; rintro rfl; exact h6 hb), h3, fun i r l hr hl => ?_, rfl, h6⟩, f⟩
  obtain ⟨a, b, G, c, d⟩ := h4 i r l hr hl
  exact ⟨a, b, G, c.fr f (fun x hx => by simp; rintro rfl; exact d _ hx (by simp)), d⟩

theorem sn_small (h : Wr w W ls bad L) (n : Int) (hR : ∀ w', Wr w' W ls (bad || !smallI n) L → Fr [W] w w' → R (.int .u64 (u64w n)) w') :
    CALL PR F_snap_writer_small [.pointer (some ⟨W, 0, none⟩), .int .i64 n] w R := by
  refine C_snap_writer_small ?_
  unfold M_snap_writer_small
  have fin : ∀ B : Bool, B = (bad || !smallI n) → BND (nilchk (.pointer (some ⟨W, 0, none⟩))) fun t18_10 => BND (faddr 1 t18_10) fun t19_11 => BND (storev 1 w t19_11 (.bool B)) fun w1 => BND (convi .u64 (.int .i64 n)) fun t21_12 => R t21_12 w1 := by
    intro B hB
    obtain ⟨w1, e1, h1, f1⟩ := h.setBad B
    exact BND_step (nilchk_ptr _) <| BND_step (faddr_ptr _ _ _) <| BND_step e1 <| BND_step rfl <| hR w1 (hB ▸ h1) f1
  obtain ⟨lv, rs, F, T, h1, _⟩ := h
  refine BND_step (nilchk_ptr _) <| BND_step (faddr_ptr _ _ _) <| BND_step (v := .bool bad) (load1_blk h1) ?_
  cases bad with
  | true =>
    simp only [isB_tf, grd_false, BND_some, pickv_true]
    exact fin true (by simp)
  | false =>
    simp only [isB_ff, grd_true, BND_some, binv_lss, pickv_false]
    by_cases h0 : n < 0
    · simp only [h0, decide_true, isB_tf, grd_false, BND_some, pickv_true]
      exact fin true (by unfold smallI; rw [decide_eq_false (by omega : ¬ (0 : Int) ≤ n)]; rfl)
    · simp only [h0, decide_false, isB_ff, grd_true, BND_some, binv_gtr, pickv_false]
      refine fin _ ?_
      unfold smallI
      rw [decide_eq_true (by omega : (0 : Int) ≤ n)]
      by_cases h1 : 1000 < n
      · rw [decide_eq_true h1, decide_eq_false (by omega : ¬ n ≤ 1000)]; rfl
      · rw [decide_eq_false h1, decide_eq_true (by omega : n ≤ 1000)]; rfl

theorem sn_put (h : Wr w W ls bad L) (hn : ls.length < 1000000) {nv : Value} {ns : List Int} {G : List Nat} (hs : Slc encU 1 w nv ns G) (hG : ∀ b ∈ G, b ∉ L) (k : Int) (t : ByteArray)
    (hR : ∀ w' L', Wr w' W (ls ++ [⟨k, ns, t⟩]) (bad || !rightR k ns.length t.size) L' → (∀ b ∈ L', b ∈ L ∨ hsz w ≤ b) → Fr L w w' → R (.tuple #[]) w') :
    CALL PR F_snap_writer_put [.pointer (some ⟨W, 0, none⟩), .int .i64 k, .string t, nv] w R := by
  obtain ⟨a, c, env⟩ : ∃ a c, nv = .slice a ns.length c := by
    obtain ⟨a, c, e, _⟩ := hs.arr
    exact ⟨a, c, e⟩
  obtain ⟨r, hr⟩ : ∃ r : Rec, r = ⟨k, a, ns.length, c, t⟩ := ⟨_, rfl⟩
  have ernv : r.nv = nv := by rw [hr, env]; rfl
  have erk : r.k = k := by rw [hr]
  have ern : r.n = ns.length := by rw [hr]
  have ert : r.t = t := by rw [hr]
  have er : (encR r).toArray = #[.int .i64 k, nv, .string t] := by unfold encR; rw [ernv, erk, ert]
  refine C_snap_writer_put ?_
  unfold M_snap_writer_put
  have hb : buildv #[(Value.int .i64 0), (Value.slice none 0 0), (Value.string ByteArray.empty)] [(0, 1, .int .i64 k), (1, 1, nv), (2, 1, .string t)] = some (.agg (encR r).toArray) := by
    rw [er]
    have := hs.one.1
    simp [buildv, fillv, this]
  refine BND_step hb <| box_step (zs := [.int .i64 0, .slice none 0 0, .string ByteArray.empty]) (vs := encR r) rfl rfl (encR_one r) (by simp [encR]) fun w2 b2 f2 z2 => ?_
  have h2 := h.fr0 f2
  have s2 := hs.fr f2 (by simp)
  obtain ⟨lv, rs, F, T, h1, _⟩ := h2
  refine BND_step (nilchk_ptr _) <| BND_step (faddr_ptr _ _ _) <| BND_step (v := .bool bad) (load1_blk h1) ?_
  -- behind the look
  have go : ∀ w3, Fr [] w2 w3 → ∀ B : Bool, B = (bad || !rightR k ns.length t.size) →
      BND (nilchk (.pointer (some ⟨W, 0, none⟩))) fun t23_10 => BND (faddr 1 t23_10) fun t24_11 => BND (storev 1 w3 t24_11 (.bool B)) fun w4 => ∃ S_12 : Nat → World → Prop, S_12 4 w4.drew ∧
      BND (nilchk (.pointer (some ⟨W, 0, none⟩))) fun t27_13 => BND (faddr 0 t27_13) fun t28_14 => FLT (S_12 4) (fun w_ => load1 w_ t28_14) fun t29_15 => BND (loadn 3 w4.drew (.pointer (some ⟨hsz w, 0, none⟩))) fun t30_16 =>
      BND (newslice 62 #[(Value.int .i64 0), (Value.slice none 0 0), (Value.string ByteArray.empty)] 3 1 [(0, 3, t30_16)] w4.drew) fun p_ => NEW p_ fun t31_17 w5 => S_12 4 w5 ∧
      APPEND 62 3 48 (Value.agg #[(Value.int .i64 0), (Value.slice none 0 0), (Value.string ByteArray.empty)]) t29_15 t31_17 w5 fun t32_18 w6 => BND (nilchk (.pointer (some ⟨W, 0, none⟩))) fun t33_19 => BND (faddr 0 t33_19) fun t34_20 => BND (storev 1 w6 t34_20 t32_18) fun w7 => R (.tuple #[]) w7 := by
    intro w3 f3 B hB
    have h3 := (h.fr0 f2).fr0 f3
    obtain ⟨w4, e4, h4, f4⟩ := h3.setBad B
    have h5 := h4.fr0 (Fr.drew [] w4)
    have f5 : Fr [W] w3 w4.drew := f4.trans' (Fr.drew _ _)
    refine BND_step (nilchk_ptr _) <| BND_step (faddr_ptr _ _ _) <| BND_step e4 ?_
    generalize w4.drew = w5 at h5 f5
    have hWlt : W < hsz w := h.lt W h.mem
    have b5 : blk w5 (hsz w) = some (.cells (encR r).toArray _ (0, 0)) := f5.some (by simp; omega) (f3.some (by simp) b2)
    have s5 : Slc encU 1 w5 nv ns G := (s2.fr f3 (by simp)).fr f5 (fun b hb => by simp; rintro rfl; exact hG _ hb h.mem)
    obtain ⟨lv, rs, F, T, g1, g2, g3, g4, rfl, g6⟩ := h5
    refine ⟨fun _ w' => blk w' W = some (.cells #[lv, .bool B] T (0, 0)), g1, ?_⟩
    refine BND_step (nilchk_ptr _) <| BND_step (faddr_ptr _ _ _) <| FLT.mk lv (fun w' hw => load1_blk hw) <| BND_step (loadn_all b5 rfl) <| newone_step encR_len rfl fun t31 w6 s6 f6 z6 => ⟨f6.some (by simp) g1, ?_⟩
    refine APPEND_slc (g2.fr f6 (by simp)) (s6.loads encR_len) encR_len encR_one rfl (by simp; omega) (by simp; omega) fun lv' w7 F' s7 f7 sub => ?_
    have g17 := f7.some g6 (f6.some (by simp) g1)
    have hWF' : W ∉ F' := fun hb => by
      rcases sub W hb with hx | hx
      · exact g6 hx
      · have := f2.grow; have := f3.grow; have := f5.grow; omega
    refine BND_step (nilchk_ptr _) <| BND_step (faddr_ptr _ _ _) <| BND_step (storev1_blk g17 (by simp) s7.one.1 s7.one.2) ?_
    have f8 : Fr [W] w7 (setB w7 W (.cells (#[lv, .bool B].setIfInBounds (0 + 0) lv') T (0, 0))) := Fr.setB (.inl (by simp)) _
    have g18 := blk_setB_same (o := .cells (#[lv, .bool B].setIfInBounds (0 + 0) lv') T (0, 0)) g17
    generalize setB w7 W (.cells (#[lv, .bool B].setIfInBounds (0 + 0) lv') T (0, 0)) = w8 at f8 g18
    have z25 : hsz w ≤ hsz w5 := by have := f2.grow; have := f3.grow; have := f5.grow; omega
    have z56 : hsz w5 ≤ hsz w6 := f6.grow
    have keep : ∀ (xv : Value) (xs : List Int) (X : List Nat), Slc encU 1 w5 xv xs X → (∀ b ∈ X, b ∉ W :: F) → Slc encU 1 w8 xv xs X ∧ ∀ b ∈ X, b ∉ W :: F' := by
      intro xv xs X hx hd
      have hl := hx.lt
      refine ⟨((hx.fr f6 (by simp)).fr f7 (fun b hb hb' => hd b hb (by simp [hb']))).fr f8 (fun b hb => by simp; rintro rfl; exact hd _ hb (by simp)), fun b hb hb' => ?_⟩
      rcases List.mem_cons.1 hb' with rfl | hb'
      · exact hd _ hb (by simp)
      · rcases sub b hb' with hx' | hx'
        · exact hd b hb (by simp [hx'])
        · have := hl b hb; omega
    refine hR w8 (W :: F') ⟨lv', rs ++ [r], F', T, by rw [← hB]; exact g18, s7.fr f8 (fun b hb => by simp; rintro rfl; exact hWF' hb), by simp [g3], fun i r' l hr' hl => ?_, rfl, hWF'⟩ (fun b hb => ?_) ?_
    · by_cases hi : i < rs.length
      · rw [List.getElem?_append_left hi] at hr'
        rw [List.getElem?_append_left (by omega)] at hl
        obtain ⟨x1, x2, X, x3, x4⟩ := g4 i r' l hr' hl
        obtain ⟨y1, y2⟩ := keep _ _ _ x3 x4
        exact ⟨x1, x2, X, y1, y2⟩
      · have hi' : i = rs.length := by
          have := (List.getElem?_eq_some_iff.1 hr').1
          simp at this; omega
        subst hi'
        rw [List.getElem?_append_right (by omega)] at hr'
        rw [List.getElem?_append_right (by omega)] at hl
        rw [g3] at hl
        simp at hr' hl
        subst hr'; subst hl
        obtain ⟨y1, y2⟩ := keep nv ns G s5 hG
        exact ⟨erk, ert, G, by rw [ernv]; exact y1, y2⟩
    · rcases List.mem_cons.1 hb with rfl | hb
      · exact .inl (by simp)
      · rcases sub b hb with hx | hx
        · exact .inl (by simp [hx])
        · exact .inr (by omega)
    · refine (f2.trans' f3).nil.trans' ?_
      refine (f5.wider (by simp)).trans' ?_
      exact f6.nil.trans' ((f7.wider (fun b hb => by simp [hb])).trans' (f8.wider (by simp)))
  cases bad with
  | true =>
    simp only [isB_tf, grd_false, GEF_false, BND_some, pickv_true]
    exact go w2 (Fr.refl _ _) true (by simp)
  | false =>
    simp only [isB_ff, grd_true, GEF_true]
    refine BND_step (loadn_all b2 rfl) <| rc_Right r fun w3 f3 => BND_step (unv_not _) <| BND_step (pickv_false _ _) ?_
    exact go w3 f3 _ (by rw [erk, ern, ert]; simp)
end
end Go.Proofs.Ytkifjfjhghogjaa
