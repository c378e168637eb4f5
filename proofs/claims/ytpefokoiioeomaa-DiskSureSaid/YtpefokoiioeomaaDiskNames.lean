/- The law of a disk's names, walked. No condition. -/
import Derived.Test.YtpefokoiioeomaaDiskFuse
import Derived.Test.YtpefokoiioeomaaMa
namespace Go.Proofs.Ytpefokoiioeomaa
open Go.Den Go.Disk
theorem without_none {l : Dir} {n : ByteArray} (h : ∀ x ∈ l, x.1 ≠ n) : without l n = l := by
  unfold without; exact List.filter_eq_self.2 fun x hx => by simp [h x hx]
theorem len_without_eq {l : Dir} (hr : riseD l) {n : ByteArray} {f : Nat} (h : findD l n = some f) : (without l n).length + 1 = l.length := by
  induction l with
  | nil => simp [findD] at h
  | cons x l ih =>
    obtain ⟨k, g⟩ := x
    obtain ⟨p, q⟩ := List.pairwise_cons.1 hr
    by_cases hk : k = n
    · subst hk
      have hne : ∀ x ∈ l, x.1 ≠ k := fun x hx e => by have := p x hx; rw [e, bl_irr] at this; cases this
      have := without_none hne
      unfold without at *
      rw [List.filter_cons_of_neg (by simp), this]; simp
    · simp only [findD, hk, if_false] at h
      have := ih q h
      unfold without at *
      rw [List.filter_cons_of_pos (by simp [hk])]; simp; omega
section
variable {s : Dk}
theorem can_free (hg : s.gone = false) (hb : s.burn = -1) (e : Int) : can s e = (s, e) := by
  unfold can
  by_cases h : e = 0
  · simp [hg, hb, h]
  · simp [hg, h]
theorem now_snoc (r : Int) (fs : List Fl) (ds : List Dir) (l : Dir) (b : Int) (g : Bool) : (⟨r, fs, ds ++ [l], b, g⟩ : Dk).now = l := by simp [Dk.now]
theorem free_act (hg : s.gone = false) (hb : s.burn = -1) (a : Act) (b : List UInt8) (t : List Int) (h7 : a.dn ≠ 7) (h8 : a.dn ≠ 8) : (act s a b t).1.gone = false ∧ (act s a b t).1.burn = -1 := by
  rcases fuse_act hg hb (m := 1) (by omega) a b t h7 h8 with ⟨_, h⟩ | ⟨m', _, _, h1, h2, _⟩
  · omega
  · exact ⟨h1, h2⟩
theorem len_now (hg : s.gone = false) (hb : s.burn = -1) (hr : riseD s.now) (a : Act) (b : List UInt8) (t : List Int) (h7 : a.dn ≠ 7) (h8 : a.dn ≠ 8) :
    (a.dn = 0 → (act s a b t).2.2 = 0 → (act s a b t).1.now.length = s.now.length + 1) ∧ (a.dn = 5 → (act s a b t).2.2 = 0 → (act s a b t).1.now.length + 1 = s.now.length) ∧ ((act s a b t).2.2 ≠ 0 → (act s a b t).1.now.length = s.now.length) := by
  have key : ∀ (y : Dk × Int), (y.2 ≠ 0 → y.1 = s) → (y.2 ≠ 0 → y.1.now.length = s.now.length) := fun y h e => by rw [h e]
  unfold act
  by_cases q0 : a.dn = 0
  · simp only [q0, if_true]
    refine ⟨fun _ => ?_, fun h => by omega, key (create s a.nm) ?_⟩ <;> simp only [create, can_free hg hb] <;> by_cases h : createE s a.nm = 0
    · simp [h, Dk.now, len_withD]
    · simp [h]
    · simp [h]
    · simp [h]
  by_cases q5 : a.dn = 5
  · simp only [q5, if_true, Int.reduceEq, if_false]
    refine ⟨fun h => by first | exact h.elim | omega, fun _ => ?_, key (delete s a.nm) ?_⟩ <;> simp only [delete, can_free hg hb] <;> by_cases h : there s a.nm = 0
    · simp only [h, if_true, forall_const]
      have hf : ∃ f, findD s.now a.nm = some f := by
        unfold there Dk.find at h
        cases hx : findD s.now a.nm with
        | none => rw [hx] at h; simp at h
        | some f => exact ⟨f, rfl⟩
      obtain ⟨f, hf⟩ := hf
      rw [now_snoc]
      exact len_without_eq hr hf
    · simp [h]
    · simp [h]
    · simp [h]
  refine ⟨fun h => absurd h q0, fun h => absurd h q5, ?_⟩
  simp only [q0, q5, h7, h8, if_false]
  by_cases q1 : a.dn = 1
  · simp only [q1, if_true]; refine key (append s a.nm b) ?_; simp only [append, can_free hg hb]; split <;> simp_all
  by_cases q2 : a.dn = 2
  · simp only [q2]; refine key (sync s a.nm) ?_; simp only [sync, can_free hg hb]; split <;> simp_all
  by_cases q3 : a.dn = 3
  · simp only [q3]; refine key (cut s a.nm a.n) ?_; simp only [cut, can_free hg hb]; split <;> simp_all
  by_cases q4 : a.dn = 4
  · simp only [q4]; refine key (rename s a.nm a.to) ?_; simp only [rename, can_free hg hb]; split <;> simp_all
  by_cases q6 : a.dn = 6
  · simp only [q6]; refine key (dirsync s) ?_; simp only [dirsync, can_free hg hb]; simp
  simp only [q1, q2, q3, q4, q6, if_false]
  intro _; trivial
theorem renamed (hi : Inv s) (hg : s.gone = false) (hb : s.burn = -1) (a b : ByteArray) (h : (rename s a b).2 = 0) :
    (Disk.read s a).2 = 0 ∧ Disk.read (rename s a b).1 b = Disk.read s a ∧ ((Disk.read (rename s a b).1 a).2 = 5 ∨ a = b) := by
  have h0 : renameE s a b = 0 := by
    simp only [rename, can_free hg hb] at h
    by_cases h' : renameE s a b = 0
    · exact h'
    · simp [h'] at h
  have hr := hi.wf.rise _ (now_mem hi.wf)
  obtain ⟨f, hf⟩ : ∃ f, findD s.now a = some f := by
    unfold renameE Dk.find at h0
    cases hx : findD s.now a with
    | none => rw [hx] at h0; simp at h0
    | some f => exact ⟨f, rfl⟩
  have hren : (rename s a b).1 = { s with dirs := s.dirs ++ [withD (without (without s.now a) b) (b, f)] } := by
    simp only [rename, can_free hg hb, h0, if_true, Dk.find, hf, Option.getD_some]
  have hrise : riseD (withD (without (without s.now a) b) (b, f)) := rise_withD (rise_without (rise_without hr a) b) fun y hy => (mem_without.1 hy).2
  have hfb : findD (withD (without (without s.now a) b) (b, f)) b = some f := findD_of_mem hrise (mem_withD.2 (.inl rfl))
  have hra : Disk.read s a = ((fileAt s f).b, 0) := by unfold Disk.read Dk.find; rw [hf, hg]; rfl
  refine ⟨by rw [hra], ?_, ?_⟩
  · rw [hra, hren]
    unfold Disk.read Dk.find
    rw [now_snoc, hfb]
    simp only [hg]; rfl
  · by_cases hab : a = b
    · exact .inr hab
    · left
      have hn : findD (withD (without (without s.now a) b) (b, f)) a = none := findD_none.2 fun x hx => by
        rcases mem_withD.1 hx with rfl | hx
        · exact fun e => hab e.symm
        · exact (mem_without.1 (mem_without.1 hx).1).2
      rw [hren]
      unfold Disk.read Dk.find
      rw [now_snoc, hn]
      simp [hg]
end
theorem stge (a b : ByteArray) : binv .str .geq (.string a) (.string b) = some (.bool (!bl a b)) := rfl
set_option linter.unusedSimpArgs false
set_option linter.unusedVariables false
set_option maxRecDepth 20000
set_option maxHeartbeats 4000000
attribute [local congr] BND_cg COND_cg GEF_cg
attribute [local irreducible] load1 loadn iaddr iaddra faddr storev newslice binv lookv mupd mdel mlenv mentry mestore slicev slicev3 slices indexs indexav textv rangev nexts clearv shiftv eqaggv convi buildv pickv lens lenl unv nilchk extractv partn JOIN
section
variable {w : World} {R : Value → World → Prop}
theorem dk_DiskNames {lv : Value} {xs : List FA} (room : Int) (from_ to : ByteArray) (ha : Acts w lv xs) (hR : ∀ w', Fr [] w w' → R (.bool true) w') : CALL PR F_tumbrellaw06_DiskNames [.int .i64 room, lv, .string from_, .string to] w R := by
  refine C_tumbrellaw06_DiskNames ?_
  unfold M_tumbrellaw06_DiskNames
  refine dk_awake fun w1 f1 => ?_
  (repeat (first | refine stp ?_ | (apply BND_inc; omega) | (apply BND_dec; omega) | refine BND_step (rfl : some _ = some _) ?_ | (apply cyes; first | assumption | omega) | (apply cno; first | assumption | omega) | refine (COND_true _ _).2 ?_ | refine (COND_false _ _).2 ?_ | simp (disch := first | assumption | omega) only [gs1, gs2, decide_true, decide_false, eq_self, beq_self_eq_true, Bool.not_true, Bool.not_false]))
  refine dk_New room (fun _ => ?_) fun hroom w2 d h2 => ?_
  · (repeat (first | refine stp ?_ | (apply BND_inc; omega) | (apply BND_dec; omega) | refine BND_step (rfl : some _ = some _) ?_ | (apply cyes; first | assumption | omega) | (apply cno; first | assumption | omega) | refine (COND_true _ _).2 ?_ | refine (COND_false _ _).2 ?_ | simp (disch := first | assumption | omega) only [gs1, gs2, decide_true, decide_false, eq_self, beq_self_eq_true, Bool.not_true, Bool.not_false]))
    exact hR _ f1
  (repeat (first | refine BND_step ptr_nil ?_ | refine stp ?_ | (apply BND_inc; omega) | (apply BND_dec; omega) | refine BND_step (rfl : some _ = some _) ?_ | (apply cyes; first | assumption | omega) | (apply cno; first | assumption | omega) | refine (COND_true _ _).2 ?_ | refine (COND_false _ _).2 ?_ | simp (disch := first | assumption | omega) only [gs1, gs2, decide_true, decide_false, eq_self, beq_self_eq_true, Bool.not_true, Bool.not_false]))
  have f2 : Fr [] w w2 := f1.trans' h2.frame
  refine dk_large (ha.fr f2) fun w3 f3 => ?_
  cases hlg : largeP xs with
  | true =>
    (repeat (first | refine stp ?_ | (apply BND_inc; omega) | (apply BND_dec; omega) | refine BND_step (rfl : some _ = some _) ?_ | (apply cyes; first | assumption | omega) | (apply cno; first | assumption | omega) | refine (COND_true _ _).2 ?_ | refine (COND_false _ _).2 ?_ | simp (disch := first | assumption | omega) only [gs1, gs2, decide_true, decide_false, eq_self, beq_self_eq_true, Bool.not_true, Bool.not_false]))
    exact hR _ (f2.trans' f3)
  | false =>
  obtain ⟨hlen, hsm⟩ := largeX_no hlg
  have hlx := ha.arr.len
  rw [List.length_map] at hlx
  (repeat (first | refine BND_step (binv_add _ _ _ _) ?_ | refine stp ?_ | (apply BND_inc; omega) | (apply BND_dec; omega) | refine BND_step (rfl : some _ = some _) ?_ | (apply cyes; first | assumption | omega) | (apply cno; first | assumption | omega) | refine (COND_true _ _).2 ?_ | refine (COND_false _ _).2 ?_ | simp (disch := first | assumption | omega) only [gs1, gs2, decide_true, decide_false, eq_self, beq_self_eq_true, Bool.not_true, Bool.not_false]))
  by_cases hft : (1000 : Int) < IntKind.i64.wrap ((from_.size : Int) + (to.size : Int))
  · (repeat (first | refine stp ?_ | (apply BND_inc; omega) | (apply BND_dec; omega) | refine BND_step (rfl : some _ = some _) ?_ | (apply cyes; first | assumption | omega) | (apply cno; first | assumption | omega) | refine (COND_true _ _).2 ?_ | refine (COND_false _ _).2 ?_ | simp (disch := first | assumption | omega) only [gs1, gs2, decide_true, decide_false, eq_self, beq_self_eq_true, Bool.not_true, Bool.not_false]))
    exact hR _ (f2.trans' f3)
  (repeat (first | refine BND_step hlx ?_ | refine stp ?_ | (apply BND_inc; omega) | (apply BND_dec; omega) | refine BND_step (rfl : some _ = some _) ?_ | (apply cyes; first | assumption | omega) | (apply cno; first | assumption | omega) | refine (COND_true _ _).2 ?_ | refine (COND_false _ _).2 ?_ | simp (disch := first | assumption | omega) only [gs1, gs2, decide_true, decide_false, eq_self, beq_self_eq_true, Bool.not_true, Bool.not_false]))
  have h3 : At w [] (diskHP d (empty room)) w3 := At.base f1 (h2.fr0 f3)
  refine loop_up 0 xs.length (fun i w' => ∃ s, At w [] (diskHP d s) w' ∧ Inv s ∧ s.gone = false ∧ s.burn = -1 ∧ s.dirs.length ≤ i + 1 ∧ s.files.length ≤ i) ⟨empty room, h3, inv_empty hroom, rfl, rfl, by simp [empty], by simp [empty]⟩ (by omega) ?_
  rintro i w4 - hi ⟨s, h4, inv, hg, hb, hd1, hd2⟩ J m hJ
  have hrise := inv.wf.rise _ (now_mem inv.wf)
  by_cases hlt : i < xs.length
  · have hx := List.getElem?_eq_getElem hlt
    have hmem := List.getElem_mem hlt
    generalize xs[i] = x at hx hmem
    have ha4 := ha.fr h4.frame
    have o1 := encA_one ha4 hmem
    have hs1 := hsm _ hmem
    have hnum := ha.num _ hmem
    obtain ⟨a, b, t⟩ := x
    simp only at o1 hs1 hnum
    obtain ⟨bb, oo, ia, ln, _, _⟩ := ha4.arr.spot (x := a) (by rw [List.getElem?_map, hx]; rfl) rfl .i64
    (repeat (first | refine BND_step ia ?_ | refine BND_step ln ?_ | refine stp ?_ | (apply BND_inc; omega) | (apply BND_dec; omega) | refine BND_step (rfl : some _ = some _) ?_ | (apply cyes; first | assumption | omega) | (apply cno; first | assumption | omega) | refine (COND_true _ _).2 ?_ | refine (COND_false _ _).2 ?_ | simp (disch := first | assumption | omega) only [gs1, gs2, decide_true, decide_false, eq_self, beq_self_eq_true, Bool.not_true, Bool.not_false]))
    refine box_step (n := 6) (zs := [_, _, _, _, _, _]) (vs := encA a) rfl rfl o1 (by simp [encA]) fun w6 b6 f6 z6 => ?_
    have h6 := h4.fr0 f6
    refine dk_Names h6 inv.wf (by omega) fun w7 v7 G7 h7 s7 g7 f7 => ?_
    have b7 := f7.some (by simp) b6
    have e7 := s7.len
    rw [List.length_map] at e7
    have f47 := f6.trans' f7
    (repeat (first | refine BND_step e7 ?_ | (apply BND_ld b7; exact rfl) | refine stp ?_ | (apply BND_inc; omega) | (apply BND_dec; omega) | refine BND_step (rfl : some _ = some _) ?_ | (apply cyes; first | assumption | omega) | (apply cno; first | assumption | omega) | refine (COND_true _ _).2 ?_ | refine (COND_false _ _).2 ?_ | simp (disch := first | assumption | omega) only [gs1, gs2, decide_true, decide_false, eq_self, beq_self_eq_true, Bool.not_true, Bool.not_false]))
    by_cases q7 : a.dn = 7
    · (repeat (first | refine stp ?_ | (apply BND_inc; omega) | (apply BND_dec; omega) | refine BND_step (rfl : some _ = some _) ?_ | (apply cyes; first | assumption | omega) | (apply cno; first | assumption | omega) | refine (COND_true _ _).2 ?_ | refine (COND_false _ _).2 ?_ | simp (disch := first | assumption | omega) only [gs1, gs2, decide_true, decide_false, eq_self, beq_self_eq_true, Bool.not_true, Bool.not_false]))
      exact hJ _ hlt ⟨s, h7, inv, hg, hb, by omega, by omega⟩
    (repeat (first | (apply BND_ld b7; exact rfl) | refine stp ?_ | (apply BND_inc; omega) | (apply BND_dec; omega) | refine BND_step (rfl : some _ = some _) ?_ | (apply cyes; first | assumption | omega) | (apply cno; first | assumption | omega) | refine (COND_true _ _).2 ?_ | refine (COND_false _ _).2 ?_ | simp (disch := first | assumption | omega) only [gs1, gs2, decide_true, decide_false, eq_self, beq_self_eq_true, Bool.not_true, Bool.not_false]))
    by_cases q8 : a.dn = 8
    · (repeat (first | refine stp ?_ | (apply BND_inc; omega) | (apply BND_dec; omega) | refine BND_step (rfl : some _ = some _) ?_ | (apply cyes; first | assumption | omega) | (apply cno; first | assumption | omega) | refine (COND_true _ _).2 ?_ | refine (COND_false _ _).2 ?_ | simp (disch := first | assumption | omega) only [gs1, gs2, decide_true, decide_false, eq_self, beq_self_eq_true, Bool.not_true, Bool.not_false]))
      exact hJ _ hlt ⟨s, h7, inv, hg, hb, by omega, by omega⟩
    (repeat (first | refine BND_step (loadn_all b7 rfl) ?_ | refine stp ?_ | (apply BND_inc; omega) | (apply BND_dec; omega) | refine BND_step (rfl : some _ = some _) ?_ | (apply cyes; first | assumption | omega) | (apply cno; first | assumption | omega) | refine (COND_true _ _).2 ?_ | refine (COND_false _ _).2 ?_ | simp (disch := first | assumption | omega) only [gs1, gs2, decide_true, decide_false, eq_self, beq_self_eq_true, Bool.not_true, Bool.not_false]))
    obtain ⟨A, ha7, hA, hA2, back⟩ := At.re3 h4 f47
    have f07 : Fr [] w w7 := h4.frame.trans' f47
    have hpa : ∀ w', Fr A w7 w' → Arr encB 1 w' a.bv b ∧ Arr encI 1 w' a.tv t := fun w' f => (ha.fr (f07.trans f hA2)).ins _ hmem
    refine dk_do ha7 inv.wf (by omega) (by omega) a (b := b) (tails := t) (by omega) (fun w' f => (hpa w' f).1) (fun w' f => (hpa w' f).2) fun w8 v8 G8 h8 s8 g8 => ?_
    have b8 := h8.frame.keep (hsz w4) (blk_lt b7) (fun hb => by have := hA _ hb; omega)
    rw [b7] at b8
    have inv' := inv_act inv a b t hnum
    have hmore := more_act s a b t inv.wf.ne
    obtain ⟨hg', hb'⟩ := free_act hg hb a b t q7 q8
    obtain ⟨l0, l5, le⟩ := len_now hg hb hrise a b t q7 q8
    have h8' := back _ _ h8
    obtain ⟨⟨s', rd, e'⟩, hact⟩ : ∃ y, act s a b t = y := ⟨_, rfl⟩
    simp only [hact] at h8 h8' s8 inv' hmore hg' hb' l0 l5 le ⊢
    (repeat (first | refine stp ?_ | (apply BND_inc; omega) | (apply BND_dec; omega) | refine BND_step (rfl : some _ = some _) ?_ | (apply cyes; first | assumption | omega) | (apply cno; first | assumption | omega) | refine (COND_true _ _).2 ?_ | refine (COND_false _ _).2 ?_ | simp (disch := first | assumption | omega) only [gs1, gs2, decide_true, decide_false, eq_self, beq_self_eq_true, Bool.not_true, Bool.not_false]))
    have rise' := inv'.wf.rise _ (now_mem inv'.wf)
    refine dk_Names h8' inv'.wf (by omega) fun w9 v9 G9 h9 s9 g9 f9 => ?_
    have b9 := f9.some (by simp) b8
    have e9 := s9.len
    rw [List.length_map] at e9
    have many := inv.wf.many _ (now_mem inv.wf)
    have many' := inv'.wf.many _ (now_mem inv'.wf)
    (repeat (first | refine BND_step e9 ?_ | refine stp ?_ | (apply BND_inc; omega) | (apply BND_dec; omega) | refine BND_step (rfl : some _ = some _) ?_ | (apply cyes; first | assumption | omega) | (apply cno; first | assumption | omega) | refine (COND_true _ _).2 ?_ | refine (COND_false _ _).2 ?_ | simp (disch := first | assumption | omega) only [gs1, gs2, decide_true, decide_false, eq_self, beq_self_eq_true, Bool.not_true, Bool.not_false]))
    refine loop_up 0 s'.now.length (fun k w' => Fr [] w9 w') (Fr.refl _ _) (by omega) ?_
    rintro k w10 - hk f10 J2 m2 hJ2
    by_cases hlt2 : k < s'.now.length
    · cases k with
      | zero =>
        (repeat (first | refine stp ?_ | (apply BND_inc; omega) | (apply BND_dec; omega) | refine BND_step (rfl : some _ = some _) ?_ | (apply cyes; first | assumption | omega) | (apply cno; first | assumption | omega) | refine (COND_true _ _).2 ?_ | refine (COND_false _ _).2 ?_ | simp (disch := first | assumption | omega) only [gs1, gs2, decide_true, decide_false, eq_self, beq_self_eq_true, Bool.not_true, Bool.not_false]))
        exact hJ2 _ hlt2 (f10.trans' (Fr.drew _ _))
      | succ k =>
        have hx1 : (s'.now.map (·.1))[k]? = some (s'.now[k]'(by omega)).1 := by rw [List.getElem?_map, List.getElem?_eq_getElem (by omega)]; rfl
        have hx2 : (s'.now.map (·.1))[k + 1]? = some (s'.now[k + 1]'hlt2).1 := by rw [List.getElem?_map, List.getElem?_eq_getElem hlt2]; rfl
        have hbl : bl (s'.now[k]'(by omega)).1 (s'.now[k + 1]'hlt2).1 = true := List.pairwise_iff_getElem.1 rise' k (k + 1) (by omega) hlt2 (by omega)
        obtain ⟨b1, o1, i1, _, _, l1⟩ := (s9.fr f10 (by simp)).arr.spot hx1 rfl .i64
        obtain ⟨b2, o2, i2, _, _, l2⟩ := (s9.fr f10 (by simp)).arr.spot hx2 rfl .i64
        (repeat (first | refine BND_step (subn_ (a := k + 1) (b := 1) (by omega)) ?_ | refine BND_step i1 ?_ | refine BND_step i2 ?_ | refine BND_step (l1 (w' := w10.drew) rfl (j := 0) rfl) ?_ | refine BND_step (l2 (w' := w10.drew) rfl (j := 0) rfl) ?_ | refine BND_step (stge _ _) ?_ | refine stp ?_ | (apply BND_inc; omega) | (apply BND_dec; omega) | refine BND_step (rfl : some _ = some _) ?_ | (apply cyes; first | assumption | omega) | (apply cno; first | assumption | omega) | refine (COND_true _ _).2 ?_ | refine (COND_false _ _).2 ?_ | simp (disch := first | assumption | omega) only [gs1, gs2, decide_true, decide_false, eq_self, beq_self_eq_true, Bool.not_true, Bool.not_false]))
        rw [hbl]
        (repeat (first | refine stp ?_ | (apply BND_inc; omega) | (apply BND_dec; omega) | refine BND_step (rfl : some _ = some _) ?_ | (apply cyes; first | assumption | omega) | (apply cno; first | assumption | omega) | refine (COND_true _ _).2 ?_ | refine (COND_false _ _).2 ?_ | simp (disch := first | assumption | omega) only [gs1, gs2, decide_true, decide_false, eq_self, beq_self_eq_true, Bool.not_true, Bool.not_false]))
        exact hJ2 _ hlt2 (f10.trans' (Fr.drew _ _))
    · have b10 := f10.some (by simp) b9
      have nxt := hJ w10 hlt ⟨s', h9.fr0 f10, inv', hg', hb', by omega, by omega⟩
      by_cases e0 : e' = 0
      · by_cases q0 : a.dn = 0
        · have := l0 q0 e0
          (repeat (first | (apply BND_ld b10; exact rfl) | refine BND_step e9 ?_ | refine BND_step (addn_ (n := s.now.length) (m := 1) (by omega)) ?_ | (apply BND_ld b10; exact rfl) | refine stp ?_ | (apply BND_inc; omega) | (apply BND_dec; omega) | refine BND_step (rfl : some _ = some _) ?_ | (apply cyes; first | assumption | omega) | (apply cno; first | assumption | omega) | refine (COND_true _ _).2 ?_ | refine (COND_false _ _).2 ?_ | simp (disch := first | assumption | omega) only [gs1, gs2, decide_true, decide_false, eq_self, beq_self_eq_true, Bool.not_true, Bool.not_false]))
          exact nxt
        · by_cases q5 : a.dn = 5
          · have := l5 q5 e0
            (repeat (first | (apply BND_ld b10; exact rfl) | (apply BND_ld b10; exact rfl) | refine BND_step e9 ?_ | refine BND_step (subn_ (n := s.now.length) (m := 1) (by omega) (by omega)) ?_ | refine stp ?_ | (apply BND_inc; omega) | (apply BND_dec; omega) | refine BND_step (rfl : some _ = some _) ?_ | (apply cyes; first | assumption | omega) | (apply cno; first | assumption | omega) | refine (COND_true _ _).2 ?_ | refine (COND_false _ _).2 ?_ | simp (disch := first | assumption | omega) only [gs1, gs2, decide_true, decide_false, eq_self, beq_self_eq_true, Bool.not_true, Bool.not_false]))
            exact nxt
          · (repeat (first | (apply BND_ld b10; exact rfl) | (apply BND_ld b10; exact rfl) | refine stp ?_ | (apply BND_inc; omega) | (apply BND_dec; omega) | refine BND_step (rfl : some _ = some _) ?_ | (apply cyes; first | assumption | omega) | (apply cno; first | assumption | omega) | refine (COND_true _ _).2 ?_ | refine (COND_false _ _).2 ?_ | simp (disch := first | assumption | omega) only [gs1, gs2, decide_true, decide_false, eq_self, beq_self_eq_true, Bool.not_true, Bool.not_false]))
            exact nxt
      · have := le e0
        by_cases q0 : a.dn = 0
        · (repeat (first | (apply BND_ld b10; exact rfl) | (apply BND_ld b10; exact rfl) | refine BND_step e9 ?_ | refine stp ?_ | (apply BND_inc; omega) | (apply BND_dec; omega) | refine BND_step (rfl : some _ = some _) ?_ | (apply cyes; first | assumption | omega) | (apply cno; first | assumption | omega) | refine (COND_true _ _).2 ?_ | refine (COND_false _ _).2 ?_ | simp (disch := first | assumption | omega) only [gs1, gs2, decide_true, decide_false, eq_self, beq_self_eq_true, Bool.not_true, Bool.not_false]))
          exact nxt
        · by_cases q5 : a.dn = 5
          · (repeat (first | (apply BND_ld b10; exact rfl) | (apply BND_ld b10; exact rfl) | refine BND_step e9 ?_ | refine stp ?_ | (apply BND_inc; omega) | (apply BND_dec; omega) | refine BND_step (rfl : some _ = some _) ?_ | (apply cyes; first | assumption | omega) | (apply cno; first | assumption | omega) | refine (COND_true _ _).2 ?_ | refine (COND_false _ _).2 ?_ | simp (disch := first | assumption | omega) only [gs1, gs2, decide_true, decide_false, eq_self, beq_self_eq_true, Bool.not_true, Bool.not_false]))
            exact nxt
          · (repeat (first | (apply BND_ld b10; exact rfl) | (apply BND_ld b10; exact rfl) | refine BND_step e9 ?_ | refine stp ?_ | (apply BND_inc; omega) | (apply BND_dec; omega) | refine BND_step (rfl : some _ = some _) ?_ | (apply cyes; first | assumption | omega) | (apply cno; first | assumption | omega) | refine (COND_true _ _).2 ?_ | refine (COND_false _ _).2 ?_ | simp (disch := first | assumption | omega) only [gs1, gs2, decide_true, decide_false, eq_self, beq_self_eq_true, Bool.not_true, Bool.not_false]))
            exact nxt
  · (repeat (first | refine stp ?_ | (apply BND_inc; omega) | (apply BND_dec; omega) | refine BND_step (rfl : some _ = some _) ?_ | (apply cyes; first | assumption | omega) | (apply cno; first | assumption | omega) | refine (COND_true _ _).2 ?_ | refine (COND_false _ _).2 ?_ | simp (disch := first | assumption | omega) only [gs1, gs2, decide_true, decide_false, eq_self, beq_self_eq_true, Bool.not_true, Bool.not_false]))
    refine dk_Read h4 inv.wf (by omega) _ fun w5 v5 G5 h5 s5 g5 f5 => ?_
    (repeat (first | refine stp ?_ | (apply BND_inc; omega) | (apply BND_dec; omega) | refine BND_step (rfl : some _ = some _) ?_ | (apply cyes; first | assumption | omega) | (apply cno; first | assumption | omega) | refine (COND_true _ _).2 ?_ | refine (COND_false _ _).2 ?_ | simp (disch := first | assumption | omega) only [gs1, gs2, decide_true, decide_false, eq_self, beq_self_eq_true, Bool.not_true, Bool.not_false]))
    obtain ⟨A, ha5, hA, hA2, back⟩ := At.re3 h4 f5
    have inv' := inv_rename inv from_ to
    have hmore := more_act s ⟨4, 0, from_, to, .slice none 0 0, .slice none 0 0⟩ [] [] inv.wf.ne
    simp only [act, Int.reduceEq, if_false, if_true] at hmore
    refine dk_Rename ha5 inv.wf (by omega) from_ to fun w6 h6 => ?_
    by_cases he : (rename s from_ to).2 = 0
    · obtain ⟨r1, r2, r3⟩ := renamed inv hg hb from_ to he
      have h6' := back _ _ h6
      (repeat (first | refine stp ?_ | (apply BND_inc; omega) | (apply BND_dec; omega) | refine BND_step (rfl : some _ = some _) ?_ | (apply cyes; first | assumption | omega) | (apply cno; first | assumption | omega) | refine (COND_true _ _).2 ?_ | refine (COND_false _ _).2 ?_ | simp (disch := first | assumption | omega) only [gs1, gs2, decide_true, decide_false, eq_self, beq_self_eq_true, Bool.not_true, Bool.not_false]))
      refine dk_Read h6' inv'.wf (by omega) _ fun w7 v7 G7 h7 s7 g7 f7 => ?_
      (repeat (first | refine stp ?_ | (apply BND_inc; omega) | (apply BND_dec; omega) | refine BND_step (rfl : some _ = some _) ?_ | (apply cyes; first | assumption | omega) | (apply cno; first | assumption | omega) | refine (COND_true _ _).2 ?_ | refine (COND_false _ _).2 ?_ | simp (disch := first | assumption | omega) only [gs1, gs2, decide_true, decide_false, eq_self, beq_self_eq_true, Bool.not_true, Bool.not_false]))
      refine dk_Read h7 inv'.wf (by omega) _ fun w8 v8 G8 h8 s8 g8 f8 => ?_
      have s5' := ((s5.fr h6.frame (fun b hb hb' => by have := g5 b hb; have := hA b hb'; omega)).fr f7 (by simp)).fr f8 (by simp)
      have s7' := s7.fr f8 (by simp)
      rw [r2] at s7' ⊢
      rw [r1]
      have hsm : (Disk.read s from_).1.length < 1000000000 := by
        have := act_len inv ⟨9, 0, from_, to, .slice none 0 0, .slice none 0 0⟩ [] []
        simpa [act] using this
      (repeat (first | refine stp ?_ | (apply BND_inc; omega) | (apply BND_dec; omega) | refine BND_step (rfl : some _ = some _) ?_ | (apply cyes; first | assumption | omega) | (apply cno; first | assumption | omega) | refine (COND_true _ _).2 ?_ | refine (COND_false _ _).2 ?_ | simp (disch := first | assumption | omega) only [gs1, gs2, decide_true, decide_false, eq_self, beq_self_eq_true, Bool.not_true, Bool.not_false]))
      refine r1_Same s5'.arr s7'.arr hsm fun w9 f9 => ?_
      rw [decide_eq_true rfl]
      by_cases h5 : (Disk.read (rename s from_ to).1 from_).2 = 5
      · (repeat (first | refine stp ?_ | (apply BND_inc; omega) | (apply BND_dec; omega) | refine BND_step (rfl : some _ = some _) ?_ | (apply cyes; first | assumption | omega) | (apply cno; first | assumption | omega) | refine (COND_true _ _).2 ?_ | refine (COND_false _ _).2 ?_ | simp (disch := first | assumption | omega) only [gs1, gs2, decide_true, decide_false, eq_self, beq_self_eq_true, Bool.not_true, Bool.not_false]))
        exact hR _ (h8.fr0 f9).frame
      · have hft := r3.resolve_left h5
        (repeat (first | refine BND_step (steq _ _) ?_ | refine stp ?_ | (apply BND_inc; omega) | (apply BND_dec; omega) | refine BND_step (rfl : some _ = some _) ?_ | (apply cyes; first | assumption | omega) | (apply cno; first | assumption | omega) | refine (COND_true _ _).2 ?_ | refine (COND_false _ _).2 ?_ | simp (disch := first | assumption | omega) only [gs1, gs2, decide_true, decide_false, eq_self, beq_self_eq_true, Bool.not_true, Bool.not_false]))
        exact hR _ (h8.fr0 f9).frame
    · (repeat (first | refine stp ?_ | (apply BND_inc; omega) | (apply BND_dec; omega) | refine BND_step (rfl : some _ = some _) ?_ | (apply cyes; first | assumption | omega) | (apply cno; first | assumption | omega) | refine (COND_true _ _).2 ?_ | refine (COND_false _ _).2 ?_ | simp (disch := first | assumption | omega) only [gs1, gs2, decide_true, decide_false, eq_self, beq_self_eq_true, Bool.not_true, Bool.not_false]))
      exact hR _ (back _ _ h6).frame
end
end Go.Proofs.Ytpefokoiioeomaa
