/- The law of a disk's fuse, walked. No condition. -/
import Derived.Test.YtpefokoiioeomaaDiskFuseP
import Derived.Test.YtpefokoiioeomaaTwo
import Derived.Test.YtpefokoiioeomaaMa
namespace Go.Proofs.Ytpefokoiioeomaa
open Go.Den Go.Disk
theorem At.zoom3 {w0 w w' : World} {F0 : List Nat} {ps : List HP} (h : At w0 F0 (stars ps) w) (f : Fr [] w w') (i : Nat) {P : HP} (hi : ps[i]? = some P) :
    ∃ A, At w' A P w' ∧ (∀ b ∈ A, b < hsz w) ∧ (∀ b ∈ A, b ∈ F0 ∨ hsz w0 ≤ b) ∧ ∀ w2 P', At w' A P' w2 → At w0 F0 (stars (ps.set i P')) w2 := by
  obtain ⟨F, h1, h2, h3⟩ := h
  have hlt := (stars ps).lt h1
  have h1' := (stars ps).fr h1 f (by simp)
  have h3' : Fr F0 w0 w' := h3.trans' f.nil
  obtain ⟨A, h4, h5, h6⟩ := stars_upd ps i P hi h1'
  have gr := h3'.grow
  refine ⟨A, At.start h4, fun b hb => hlt b (h5 b hb), fun b hb => h2 b (h5 b hb), fun w2 P' ⟨F', p1, p2, p3⟩ => ?_⟩
  obtain ⟨F2, h7, h8⟩ := h6 w2 F' P' p1 p3 p2
  refine ⟨F2, h7, fun b hb => ?_, h3'.trans p3 fun b hb => h2 b (h5 b hb)⟩
  rcases h8 b hb with hx | hx
  · exact h2 b hx
  · exact .inr (by omega)
theorem inv_wb {s : Dk} (h : Inv s) {k : Int} (hk : -1 ≤ k ∧ k ≤ 9223372036854775807) : Inv (wb s k) := by
  obtain ⟨w, r, o⟩ := h
  exact ⟨⟨w.ne, w.rise, w.idx, w.many, w.nm, w.sure, w.small, w.room, hk⟩, r, o⟩
theorem inv_down {s : Dk} (h : Inv s) : Inv { s with gone := true } := by
  obtain ⟨w, r, o⟩ := h
  exact ⟨⟨w.ne, w.rise, w.idx, w.many, w.nm, w.sure, w.small, w.room, w.burn⟩, r, o⟩
theorem arr_nil {w : World} : Arr encI 1 w (.slice none 0 0) [] := ⟨none, 0, rfl, .inl rfl⟩
theorem act_len {s : Dk} (h : Inv s) (a : Act) (b : List UInt8) (t : List Int) : (act s a b t).2.1.length < 1000000000 := by
  have h1 := h.wf.room
  unfold act
  repeat' split
  all_goals try (simp; done)
  simp only [Disk.read]
  split
  · simp
  · split
    · simp
    · rename_i f hf
      have := h.wf.small _ (List.mem_of_getElem? (wf_pick h.wf hf))
      show (fileAt s f).b.length < _
      omega
/-- how the disk of a fuse stands to the one without. -/
def FuseRel (n : Int) (done : Nat) (sa sb : Dk) : Prop := (sa = wb sb (n - done) ∧ (done : Int) ≤ n) ∨ (sa = { wb sb 0 with gone := true } ∧ (done : Int) = n)
theorem fuse_crash {n : Int} {done : Nat} {sa sb : Dk} (h : FuseRel n done sa sb) : crash sa 100 [] = crash sb 100 [] := by
  rcases h with ⟨rfl, _⟩ | ⟨rfl, _⟩ <;> rfl
theorem fuse_inv {n : Int} {done : Nat} {sa sb : Dk} (h : FuseRel n done sa sb) (hi : Inv sb) (hn : 0 ≤ n ∧ n ≤ 9223372036854775807) : Inv sa := by
  rcases h with ⟨rfl, h⟩ | ⟨rfl, h⟩
  · exact inv_wb hi (by omega)
  · exact inv_down (inv_wb hi (by omega))
theorem fuse_len {n : Int} {done : Nat} {sa sb : Dk} (h : FuseRel n done sa sb) : sa.dirs = sb.dirs ∧ sa.files = sb.files := by
  rcases h with ⟨rfl, _⟩ | ⟨rfl, _⟩ <;> exact ⟨rfl, rfl⟩
set_option linter.unusedSimpArgs false
set_option linter.unusedVariables false
set_option maxRecDepth 20000
set_option maxHeartbeats 4000000
attribute [local congr] BND_cg COND_cg GEF_cg
attribute [local irreducible] load1 loadn iaddr iaddra faddr storev newslice binv lookv mupd mdel mlenv mentry mestore slicev slicev3 slices indexs indexav textv rangev nexts clearv shiftv eqaggv convi buildv pickv lens lenl unv nilchk extractv partn JOIN
section
variable {w : World} {R : Value → World → Prop}
theorem dk_Down' {w0 : World} {F0 : List Nat} {d : Nat} {s : Dk} {g : Bool} (h : At w0 F0 (diskHP d s) w) (hg : s.gone = g) (hR : R (.bool g) w) : CALL PR F_disk_Disk_Down [ptrTo d] w R := dk_Down h (hg ▸ hR)
theorem dk_DiskFuse {lv : Value} {xs : List FA} (room n : Int) (hn : n ≤ 9223372036854775807) (ha : Acts w lv xs) (hR : ∀ w', Fr [] w w' → R (.bool true) w') : CALL PR F_tumbrellaw06_DiskFuse [.int .i64 room, .int .i64 n, lv] w R := by
  refine C_tumbrellaw06_DiskFuse ?_
  unfold M_tumbrellaw06_DiskFuse
  refine dk_awake fun w1 f1 => ?_
  (repeat (first | refine stp ?_ | (apply BND_inc; omega) | (apply BND_dec; omega) | refine BND_step (rfl : some _ = some _) ?_ | (apply cyes; first | assumption | omega) | (apply cno; first | assumption | omega) | refine (COND_true _ _).2 ?_ | refine (COND_false _ _).2 ?_ | simp (disch := first | assumption | omega) only [gs1, gs2, decide_true, decide_false, eq_self, beq_self_eq_true, Bool.not_true, Bool.not_false]))
  refine dk_New room (fun hno => ?_) fun hroom w2 d1 h2 => ?_
  · (repeat (first | refine stp ?_ | (apply BND_inc; omega) | (apply BND_dec; omega) | refine BND_step (rfl : some _ = some _) ?_ | (apply cyes; first | assumption | omega) | (apply cno; first | assumption | omega) | refine (COND_true _ _).2 ?_ | refine (COND_false _ _).2 ?_ | simp (disch := first | assumption | omega) only [gs1, gs2, decide_true, decide_false, eq_self, beq_self_eq_true, Bool.not_true, Bool.not_false]))
    refine dk_New room (fun _ => ?_) fun hroom _ _ _ => by omega
    have e : binv .ptr .eql (.pointer none) (.pointer none) = some (.bool true) := (inferInstance : Ev (binv .ptr .eql (.pointer none) (.pointer none)) (.bool true)).h
    (repeat (first | refine BND_step e ?_ | refine stp ?_ | (apply BND_inc; omega) | (apply BND_dec; omega) | refine BND_step (rfl : some _ = some _) ?_ | (apply cyes; first | assumption | omega) | (apply cno; first | assumption | omega) | refine (COND_true _ _).2 ?_ | refine (COND_false _ _).2 ?_ | simp (disch := first | assumption | omega) only [gs1, gs2, decide_true, decide_false, eq_self, beq_self_eq_true, Bool.not_true, Bool.not_false]))
    exact hR _ f1
  (repeat (first | refine stp ?_ | (apply BND_inc; omega) | (apply BND_dec; omega) | refine BND_step (rfl : some _ = some _) ?_ | (apply cyes; first | assumption | omega) | (apply cno; first | assumption | omega) | refine (COND_true _ _).2 ?_ | refine (COND_false _ _).2 ?_ | simp (disch := first | assumption | omega) only [gs1, gs2, decide_true, decide_false, eq_self, beq_self_eq_true, Bool.not_true, Bool.not_false]))
  refine dk_New room (fun hno => by omega) fun _ w3 d2 h3 => ?_
  (repeat (first | refine BND_step ptr_nil ?_ | refine stp ?_ | (apply BND_inc; omega) | (apply BND_dec; omega) | refine BND_step (rfl : some _ = some _) ?_ | (apply cyes; first | assumption | omega) | (apply cno; first | assumption | omega) | refine (COND_true _ _).2 ?_ | refine (COND_false _ _).2 ?_ | simp (disch := first | assumption | omega) only [gs1, gs2, decide_true, decide_false, eq_self, beq_self_eq_true, Bool.not_true, Bool.not_false]))
  have f2 : Fr [] w w3 := (f1.trans' h2.frame).trans' h3.frame
  refine dk_large (ha.fr f2) fun w4 f4 => ?_
  cases hlg : largeP xs with
  | true =>
    (repeat (first | refine stp ?_ | (apply BND_inc; omega) | (apply BND_dec; omega) | refine BND_step (rfl : some _ = some _) ?_ | (apply cyes; first | assumption | omega) | (apply cno; first | assumption | omega) | refine (COND_true _ _).2 ?_ | refine (COND_false _ _).2 ?_ | simp (disch := first | assumption | omega) only [gs1, gs2, decide_true, decide_false, eq_self, beq_self_eq_true, Bool.not_true, Bool.not_false]))
    exact hR _ (f2.trans' f4)
  | false =>
  by_cases hn0 : n < 0
  · (repeat (first | refine stp ?_ | (apply BND_inc; omega) | (apply BND_dec; omega) | refine BND_step (rfl : some _ = some _) ?_ | (apply cyes; first | assumption | omega) | (apply cno; first | assumption | omega) | refine (COND_true _ _).2 ?_ | refine (COND_false _ _).2 ?_ | simp (disch := first | assumption | omega) only [gs1, gs2, decide_true, decide_false, eq_self, beq_self_eq_true, Bool.not_true, Bool.not_false]))
    exact hR _ (f2.trans' f4)
  obtain ⟨hlen, hsm⟩ := largeX_no hlg
  have hlx := ha.arr.len
  rw [List.length_map] at hlx
  (repeat (first | refine stp ?_ | (apply BND_inc; omega) | (apply BND_dec; omega) | refine BND_step (rfl : some _ = some _) ?_ | (apply cyes; first | assumption | omega) | (apply cno; first | assumption | omega) | refine (COND_true _ _).2 ?_ | refine (COND_false _ _).2 ?_ | simp (disch := first | assumption | omega) only [gs1, gs2, decide_true, decide_false, eq_self, beq_self_eq_true, Bool.not_true, Bool.not_false]))
  have hA2 := (At.wrap h2).fr0 h3.frame
  have hB : At w1 [] (stars [diskHP d2 (empty room), diskHP d1 (empty room)]) w3 := by
    obtain ⟨F, g1, g2, g3⟩ := h3
    exact (At.wrap h2).add g3 g1 (fun b hb => by have := g2 b hb; simpa using this)
  have hB4 := At.base f1 (hB.fr0 f4)
  obtain ⟨A, hz, back⟩ := At.zoom hB4 1 rfl
  refine dk_Fuse hz n fun w5 h5 => ?_
  have h5' := back w5 _ h5
  (repeat (first | refine BND_step hlx ?_ | refine stp ?_ | (apply BND_inc; omega) | (apply BND_dec; omega) | refine BND_step (rfl : some _ = some _) ?_ | (apply cyes; first | assumption | omega) | (apply cno; first | assumption | omega) | refine (COND_true _ _).2 ?_ | refine (COND_false _ _).2 ?_ | simp (disch := first | assumption | omega) only [gs1, gs2, decide_true, decide_false, eq_self, beq_self_eq_true, Bool.not_true, Bool.not_false]))
  have hfz : fuse (empty room) n = wb (empty room) n := by unfold fuse wb; rw [if_neg (by omega)]
  rw [hfz] at h5'
  refine loop_up2 (o := .int .i64 0) 0 xs.length (fun o i w' => ∃ (done : Nat) (sa sb : Dk), o = .int .i64 (done : Int) ∧ At w [] (stars [diskHP d2 sb, diskHP d1 sa]) w' ∧ FuseRel n done sa sb ∧ sb.gone = false ∧ sb.burn = -1 ∧ Inv sb ∧ sb.dirs.length ≤ i + 1 ∧ sb.files.length ≤ i ∧ done ≤ i)
    ⟨0, wb (empty room) n, empty room, rfl, h5', .inl ⟨by simp, by simp; omega⟩, rfl, rfl, inv_empty hroom, by simp [empty], by simp [empty], by omega⟩ (by omega) ?_
  rintro o i w6 - hi ⟨done, sa, sb, rfl, h6, rel, hg, hb, inv, hd1, hd2, hdi⟩ J m hJ
  have invA := fuse_inv rel inv (by omega)
  obtain ⟨eld, elf⟩ := fuse_len rel
  by_cases hlt : i < xs.length
  · have hx := List.getElem?_eq_getElem hlt
    have hmem := List.getElem_mem hlt
    generalize xs[i] = x at hx hmem
    have ha6 := ha.fr h6.frame
    have o1 := encA_one ha6 hmem
    have hs1 := hsm _ hmem
    have hnum := ha.num _ hmem
    obtain ⟨a, b, t⟩ := x
    simp only at o1 hs1 hnum
    obtain ⟨bb, oo, ia, ln, _, _⟩ := ha6.arr.spot (x := a) (by rw [List.getElem?_map, hx]; rfl) rfl .i64
    (repeat (first | refine BND_step ia ?_ | refine BND_step ln ?_ | refine stp ?_ | (apply BND_inc; omega) | (apply BND_dec; omega) | refine BND_step (rfl : some _ = some _) ?_ | (apply cyes; first | assumption | omega) | (apply cno; first | assumption | omega) | refine (COND_true _ _).2 ?_ | refine (COND_false _ _).2 ?_ | simp (disch := first | assumption | omega) only [gs1, gs2, decide_true, decide_false, eq_self, beq_self_eq_true, Bool.not_true, Bool.not_false]))
    refine box_step (n := 6) (zs := [_, _, _, _, _, _]) (vs := encA a) rfl rfl o1 (by simp [encA]) fun w8 b8 f8 z8 => ?_
    have h8 := h6.fr0 f8
    have skip : J (.int .i64 (done : Int)) (.int .i64 ((i + 1 : Nat) : Int)) w8 ∧ m (.int .i64 (done : Int)) (.int .i64 ((i + 1 : Nat) : Int)) w8 < m (.int .i64 (done : Int)) (.int .i64 (i : Int)) w6 :=
      hJ _ w8 hlt ⟨done, sa, sb, rfl, h8, rel, hg, hb, inv, by omega, by omega, by omega⟩
    (repeat (first | (apply BND_ld b8; exact rfl) | refine stp ?_ | (apply BND_inc; omega) | (apply BND_dec; omega) | refine BND_step (rfl : some _ = some _) ?_ | (apply cyes; first | assumption | omega) | (apply cno; first | assumption | omega) | refine (COND_true _ _).2 ?_ | refine (COND_false _ _).2 ?_ | simp (disch := first | assumption | omega) only [gs1, gs2, decide_true, decide_false, eq_self, beq_self_eq_true, Bool.not_true, Bool.not_false]))
    by_cases q7 : a.dn = 7
    · (repeat (first | refine stp ?_ | (apply BND_inc; omega) | (apply BND_dec; omega) | refine BND_step (rfl : some _ = some _) ?_ | (apply cyes; first | assumption | omega) | (apply cno; first | assumption | omega) | refine (COND_true _ _).2 ?_ | refine (COND_false _ _).2 ?_ | simp (disch := first | assumption | omega) only [gs1, gs2, decide_true, decide_false, eq_self, beq_self_eq_true, Bool.not_true, Bool.not_false]))
      exact skip
    (repeat (first | (apply BND_ld b8; exact rfl) | refine stp ?_ | (apply BND_inc; omega) | (apply BND_dec; omega) | refine BND_step (rfl : some _ = some _) ?_ | (apply cyes; first | assumption | omega) | (apply cno; first | assumption | omega) | refine (COND_true _ _).2 ?_ | refine (COND_false _ _).2 ?_ | simp (disch := first | assumption | omega) only [gs1, gs2, decide_true, decide_false, eq_self, beq_self_eq_true, Bool.not_true, Bool.not_false]))
    by_cases q8 : a.dn = 8
    · (repeat (first | refine stp ?_ | (apply BND_inc; omega) | (apply BND_dec; omega) | refine BND_step (rfl : some _ = some _) ?_ | (apply cyes; first | assumption | omega) | (apply cno; first | assumption | omega) | refine (COND_true _ _).2 ?_ | refine (COND_false _ _).2 ?_ | simp (disch := first | assumption | omega) only [gs1, gs2, decide_true, decide_false, eq_self, beq_self_eq_true, Bool.not_true, Bool.not_false]))
      exact skip
    (repeat (first | refine stp ?_ | (apply BND_inc; omega) | (apply BND_dec; omega) | refine BND_step (rfl : some _ = some _) ?_ | (apply cyes; first | assumption | omega) | (apply cno; first | assumption | omega) | refine (COND_true _ _).2 ?_ | refine (COND_false _ _).2 ?_ | simp (disch := first | assumption | omega) only [gs1, gs2, decide_true, decide_false, eq_self, beq_self_eq_true, Bool.not_true, Bool.not_false]))
    obtain ⟨A, B, zA, zB, hA1, hB1, hd, f8', hA2, hB2⟩ := At.two h6 f8
    refine dk_Down' zB rfl ?_
    rcases rel with ⟨rfl, hle⟩ | ⟨rfl, heq⟩
    · rw [show (wb sb (n - done)).gone = false from hg]
      (repeat (first | refine BND_step (loadn_all b8 rfl) ?_ | refine stp ?_ | (apply BND_inc; omega) | (apply BND_dec; omega) | refine BND_step (rfl : some _ = some _) ?_ | (apply cyes; first | assumption | omega) | (apply cno; first | assumption | omega) | refine (COND_true _ _).2 ?_ | refine (COND_false _ _).2 ?_ | simp (disch := first | assumption | omega) only [gs1, gs2, decide_true, decide_false, eq_self, beq_self_eq_true, Bool.not_true, Bool.not_false]))
      have hins : ∀ w', Fr [] w w' → Arr encB 1 w' a.bv b ∧ Arr encI 1 w' a.tv t := fun w' f => (ha.fr f).ins _ hmem
      refine dk_do zB invA.wf (by show sb.dirs.length < 1000000000; omega) (by show sb.files.length < 1000000000; omega) a (b := b) (tails := t) (by omega) (fun w' f => (hins w' (f8'.trans f hB2)).1) (fun w' f => (hins w' (f8'.trans f hB2)).2) fun w10 v10 G10 h10 s10 g10 => ?_
      have f10 := h10.frame
      have b10 := f10.keep (hsz w6) (blk_lt b8) (fun hb => by have := hB1 _ hb; omega)
      rw [b8] at b10
      have zA10 := At.first zA h10 hd
      have inv' := inv_act inv a b t hnum
      have hmore := more_act sb a b t inv.wf.ne
      rcases fuse_act hg hb (show 0 ≤ n - done by omega) a b t q7 q8 with ⟨e1, e2⟩ | ⟨m', m1, e1, m2, m3, m4⟩
      · replace e1 : act (wb sb (n - done)) a b t = ({ wb sb (n - done) with gone := true }, [], 7) := e1
        rw [e1] at h10 s10 ⊢
        (repeat (first | refine stp ?_ | (apply BND_inc; omega) | (apply BND_dec; omega) | refine BND_step (rfl : some _ = some _) ?_ | (apply cyes; first | assumption | omega) | (apply cno; first | assumption | omega) | refine (COND_true _ _).2 ?_ | refine (COND_false _ _).2 ?_ | simp (disch := first | assumption | omega) only [gs1, gs2, decide_true, decide_false, eq_self, beq_self_eq_true, Bool.not_true, Bool.not_false]))
        refine dk_Down' h10 rfl ?_
        (repeat (first | refine stp ?_ | (apply BND_inc; omega) | (apply BND_dec; omega) | refine BND_step (rfl : some _ = some _) ?_ | (apply cyes; first | assumption | omega) | (apply cno; first | assumption | omega) | refine (COND_true _ _).2 ?_ | refine (COND_false _ _).2 ?_ | simp (disch := first | assumption | omega) only [gs1, gs2, decide_true, decide_false, eq_self, beq_self_eq_true, Bool.not_true, Bool.not_false]))
        have h11 := At.join2 h10 zA10 hd (fun b hb => by have := hA1 b hb; have := f8.grow; omega) f8' hA2 hB2
        rw [e2] at h11
        exact hJ _ _ hlt ⟨done, _, sb, rfl, h11, .inr ⟨rfl, by omega⟩, hg, hb, inv, by omega, by omega, by omega⟩
      · replace e1 : act (wb sb (n - done)) a b t = (wb (act sb a b t).1 m', (act sb a b t).2) := e1
        rw [e1] at h10 s10 ⊢
        simp only at m2 m3 m4 h10 s10
        (repeat (first | refine stp ?_ | (apply BND_inc; omega) | (apply BND_dec; omega) | refine BND_step (rfl : some _ = some _) ?_ | (apply cyes; first | assumption | omega) | (apply cno; first | assumption | omega) | refine (COND_true _ _).2 ?_ | refine (COND_false _ _).2 ?_ | simp (disch := first | assumption | omega) only [gs1, gs2, decide_true, decide_false, eq_self, beq_self_eq_true, Bool.not_true, Bool.not_false]))
        refine dk_Down' h10 (show (wb (act sb a b t).1 m').gone = false from m2) ?_
        (repeat (first | refine BND_step (loadn_all b10 rfl) ?_ | refine stp ?_ | (apply BND_inc; omega) | (apply BND_dec; omega) | refine BND_step (rfl : some _ = some _) ?_ | (apply cyes; first | assumption | omega) | (apply cno; first | assumption | omega) | refine (COND_true _ _).2 ?_ | refine (COND_false _ _).2 ?_ | simp (disch := first | assumption | omega) only [gs1, gs2, decide_true, decide_false, eq_self, beq_self_eq_true, Bool.not_true, Bool.not_false]))
        have f10' : Fr [] w w10 := f8'.trans f10 hB2
        refine dk_do zA10 inv.wf (by omega) (by omega) a (b := b) (tails := t) (by omega) (fun w' f => (hins w' (f10'.trans f hA2)).1) (fun w' f => (hins w' (f10'.trans f hA2)).2) fun w12 v12 G12 h12 s12 g12 => ?_
        have f12 := h12.frame
        have gr8 := f8.grow
        have gr10 := f10.grow
        have b12 := f12.keep (hsz w6) (blk_lt b10) (fun hb => by have := hA1 _ hb; omega)
        rw [b10] at b12
        have s10' := s10.fr f12 (fun b hb hb' => by have := g10 b hb; have := hA1 b hb'; omega)
        have hlr : (act sb a b t).2.1.length < 1000000000 := act_len inv a b t
        have h13 := At.join2 h10 h12 hd (fun b hb => by have := hA1 b hb; omega) f8' hA2 hB2
        obtain ⟨⟨s', rd, e'⟩, hact⟩ : ∃ y, act sb a b t = y := ⟨_, rfl⟩
        simp only [hact] at h13 s10' s12 inv' hmore m2 m3 m4 hlr ⊢
        (repeat (first | refine stp ?_ | (apply BND_inc; omega) | (apply BND_dec; omega) | refine BND_step (rfl : some _ = some _) ?_ | (apply cyes; first | assumption | omega) | (apply cno; first | assumption | omega) | refine (COND_true _ _).2 ?_ | refine (COND_false _ _).2 ?_ | simp (disch := first | assumption | omega) only [gs1, gs2, decide_true, decide_false, eq_self, beq_self_eq_true, Bool.not_true, Bool.not_false]))
        refine r1_Same s10'.arr s12.arr hlr fun w13 f13 => ?_
        rw [decide_eq_true rfl]
        have b13 := f13.some (by simp) b12
        have h13' := h13.fr0 f13
        (repeat (first | (apply BND_ld b13; exact rfl) | refine stp ?_ | (apply BND_inc; omega) | (apply BND_dec; omega) | refine BND_step (rfl : some _ = some _) ?_ | (apply cyes; first | assumption | omega) | (apply cno; first | assumption | omega) | refine (COND_true _ _).2 ?_ | refine (COND_false _ _).2 ?_ | simp (disch := first | assumption | omega) only [gs1, gs2, decide_true, decide_false, eq_self, beq_self_eq_true, Bool.not_true, Bool.not_false]))
        have fin : ∀ k : Nat, m' = n - k → (k : Int) ≤ n → k ≤ i + 1 → J (.int .i64 (k : Int)) (.int .i64 ((i + 1 : Nat) : Int)) w13 ∧ m (.int .i64 (k : Int)) (.int .i64 ((i + 1 : Nat) : Int)) w13 < m (.int .i64 (done : Int)) (.int .i64 (i : Int)) w6 :=
          fun k h1 h2 h3 => hJ _ _ hlt ⟨k, _, s', rfl, h13', .inl ⟨by rw [h1], h2⟩, m2, m3, inv', by omega, by omega, h3⟩
        have no : ¬(e' = 0 ∧ 0 ≤ a.dn ∧ a.dn ≤ 6) → J (.int .i64 (done : Int)) (.int .i64 ((i + 1 : Nat) : Int)) w13 ∧ m (.int .i64 (done : Int)) (.int .i64 ((i + 1 : Nat) : Int)) w13 < m (.int .i64 (done : Int)) (.int .i64 (i : Int)) w6 :=
          fun h => by rw [if_neg h] at m4; exact fin done m4 (by omega) (by omega)
        by_cases e0 : e' = 0
        · by_cases p0 : 0 ≤ a.dn
          · by_cases p6 : a.dn ≤ 6
            · (repeat (first | (apply BND_ld b13; exact rfl) | refine stp ?_ | (apply BND_inc; omega) | (apply BND_dec; omega) | refine BND_step (rfl : some _ = some _) ?_ | (apply cyes; first | assumption | omega) | (apply cno; first | assumption | omega) | refine (COND_true _ _).2 ?_ | refine (COND_false _ _).2 ?_ | simp (disch := first | assumption | omega) only [gs1, gs2, decide_true, decide_false, eq_self, beq_self_eq_true, Bool.not_true, Bool.not_false]))
              refine join_v (Q := fun v w' => v = .int .i64 ((done + 1 : Nat) : Int) ∧ w' = w13) (fun k hk => ?_) ?_
              · (repeat (first | refine stp ?_ | (apply BND_inc; omega) | (apply BND_dec; omega) | refine BND_step (rfl : some _ = some _) ?_ | (apply cyes; first | assumption | omega) | (apply cno; first | assumption | omega) | refine (COND_true _ _).2 ?_ | refine (COND_false _ _).2 ?_ | simp (disch := first | assumption | omega) only [gs1, gs2, decide_true, decide_false, eq_self, beq_self_eq_true, Bool.not_true, Bool.not_false]))
                exact hk _ _ ⟨rfl, rfl⟩
              · rintro v w' ⟨rfl, rfl⟩
                (repeat (first | refine stp ?_ | (apply BND_inc; omega) | (apply BND_dec; omega) | refine BND_step (rfl : some _ = some _) ?_ | (apply cyes; first | assumption | omega) | (apply cno; first | assumption | omega) | refine (COND_true _ _).2 ?_ | refine (COND_false _ _).2 ?_ | simp (disch := first | assumption | omega) only [gs1, gs2, decide_true, decide_false, eq_self, beq_self_eq_true, Bool.not_true, Bool.not_false]))
                rw [if_pos ⟨e0, p0, p6⟩] at m4
                exact fin (done + 1) (by omega) (by omega) (by omega)
            · (repeat (first | (apply BND_ld b13; exact rfl) | refine stp ?_ | (apply BND_inc; omega) | (apply BND_dec; omega) | refine BND_step (rfl : some _ = some _) ?_ | (apply cyes; first | assumption | omega) | (apply cno; first | assumption | omega) | refine (COND_true _ _).2 ?_ | refine (COND_false _ _).2 ?_ | simp (disch := first | assumption | omega) only [gs1, gs2, decide_true, decide_false, eq_self, beq_self_eq_true, Bool.not_true, Bool.not_false]))
              refine join_v (Q := fun v w' => v = .int .i64 ((done : Nat) : Int) ∧ w' = w13) (fun k hk => ?_) ?_
              · (repeat (first | refine stp ?_ | (apply BND_inc; omega) | (apply BND_dec; omega) | refine BND_step (rfl : some _ = some _) ?_ | (apply cyes; first | assumption | omega) | (apply cno; first | assumption | omega) | refine (COND_true _ _).2 ?_ | refine (COND_false _ _).2 ?_ | simp (disch := first | assumption | omega) only [gs1, gs2, decide_true, decide_false, eq_self, beq_self_eq_true, Bool.not_true, Bool.not_false]))
                exact hk _ _ ⟨rfl, rfl⟩
              · rintro v w' ⟨rfl, rfl⟩
                (repeat (first | refine stp ?_ | (apply BND_inc; omega) | (apply BND_dec; omega) | refine BND_step (rfl : some _ = some _) ?_ | (apply cyes; first | assumption | omega) | (apply cno; first | assumption | omega) | refine (COND_true _ _).2 ?_ | refine (COND_false _ _).2 ?_ | simp (disch := first | assumption | omega) only [gs1, gs2, decide_true, decide_false, eq_self, beq_self_eq_true, Bool.not_true, Bool.not_false]))
                exact no (by omega)
          · (repeat (first | (apply BND_ld b13; exact rfl) | refine stp ?_ | (apply BND_inc; omega) | (apply BND_dec; omega) | refine BND_step (rfl : some _ = some _) ?_ | (apply cyes; first | assumption | omega) | (apply cno; first | assumption | omega) | refine (COND_true _ _).2 ?_ | refine (COND_false _ _).2 ?_ | simp (disch := first | assumption | omega) only [gs1, gs2, decide_true, decide_false, eq_self, beq_self_eq_true, Bool.not_true, Bool.not_false]))
            refine join_v (Q := fun v w' => v = .int .i64 ((done : Nat) : Int) ∧ w' = w13) (fun k hk => ?_) ?_
            · (repeat (first | refine stp ?_ | (apply BND_inc; omega) | (apply BND_dec; omega) | refine BND_step (rfl : some _ = some _) ?_ | (apply cyes; first | assumption | omega) | (apply cno; first | assumption | omega) | refine (COND_true _ _).2 ?_ | refine (COND_false _ _).2 ?_ | simp (disch := first | assumption | omega) only [gs1, gs2, decide_true, decide_false, eq_self, beq_self_eq_true, Bool.not_true, Bool.not_false]))
              exact hk _ _ ⟨rfl, rfl⟩
            · rintro v w' ⟨rfl, rfl⟩
              (repeat (first | refine stp ?_ | (apply BND_inc; omega) | (apply BND_dec; omega) | refine BND_step (rfl : some _ = some _) ?_ | (apply cyes; first | assumption | omega) | (apply cno; first | assumption | omega) | refine (COND_true _ _).2 ?_ | refine (COND_false _ _).2 ?_ | simp (disch := first | assumption | omega) only [gs1, gs2, decide_true, decide_false, eq_self, beq_self_eq_true, Bool.not_true, Bool.not_false]))
              exact no (by omega)
        · (repeat (first | (apply BND_ld b13; exact rfl) | refine stp ?_ | (apply BND_inc; omega) | (apply BND_dec; omega) | refine BND_step (rfl : some _ = some _) ?_ | (apply cyes; first | assumption | omega) | (apply cno; first | assumption | omega) | refine (COND_true _ _).2 ?_ | refine (COND_false _ _).2 ?_ | simp (disch := first | assumption | omega) only [gs1, gs2, decide_true, decide_false, eq_self, beq_self_eq_true, Bool.not_true, Bool.not_false]))
          refine join_v (Q := fun v w' => v = .int .i64 ((done : Nat) : Int) ∧ w' = w13) (fun k hk => ?_) ?_
          · (repeat (first | refine stp ?_ | (apply BND_inc; omega) | (apply BND_dec; omega) | refine BND_step (rfl : some _ = some _) ?_ | (apply cyes; first | assumption | omega) | (apply cno; first | assumption | omega) | refine (COND_true _ _).2 ?_ | refine (COND_false _ _).2 ?_ | simp (disch := first | assumption | omega) only [gs1, gs2, decide_true, decide_false, eq_self, beq_self_eq_true, Bool.not_true, Bool.not_false]))
            exact hk _ _ ⟨rfl, rfl⟩
          · rintro v w' ⟨rfl, rfl⟩
            (repeat (first | refine stp ?_ | (apply BND_inc; omega) | (apply BND_dec; omega) | refine BND_step (rfl : some _ = some _) ?_ | (apply cyes; first | assumption | omega) | (apply cno; first | assumption | omega) | refine (COND_true _ _).2 ?_ | refine (COND_false _ _).2 ?_ | simp (disch := first | assumption | omega) only [gs1, gs2, decide_true, decide_false, eq_self, beq_self_eq_true, Bool.not_true, Bool.not_false]))
            exact no (by omega)
    · rw [show ({ wb sb 0 with gone := true } : Dk).gone = true from rfl]
      (repeat (first | refine stp ?_ | (apply BND_inc; omega) | (apply BND_dec; omega) | refine BND_step (rfl : some _ = some _) ?_ | (apply cyes; first | assumption | omega) | (apply cno; first | assumption | omega) | refine (COND_true _ _).2 ?_ | refine (COND_false _ _).2 ?_ | simp (disch := first | assumption | omega) only [gs1, gs2, decide_true, decide_false, eq_self, beq_self_eq_true, Bool.not_true, Bool.not_false]))
      exact skip
  · (repeat (first | refine stp ?_ | (apply BND_inc; omega) | (apply BND_dec; omega) | refine BND_step (rfl : some _ = some _) ?_ | (apply cyes; first | assumption | omega) | (apply cno; first | assumption | omega) | refine (COND_true _ _).2 ?_ | refine (COND_false _ _).2 ?_ | simp (disch := first | assumption | omega) only [gs1, gs2, decide_true, decide_false, eq_self, beq_self_eq_true, Bool.not_true, Bool.not_false]))
    obtain ⟨A, B, zA, zB, hA1, hB1, hd, f8', hA2, hB2⟩ := At.two h6 (Fr.refl _ _)
    refine dk_Crash zB invA.wf (by rw [eld]; omega) 100 (tails := []) (fun _ _ => arr_nil) fun w15 h15 => ?_
    (repeat (first | refine stp ?_ | (apply BND_inc; omega) | (apply BND_dec; omega) | refine BND_step (rfl : some _ = some _) ?_ | (apply cyes; first | assumption | omega) | (apply cno; first | assumption | omega) | refine (COND_true _ _).2 ?_ | refine (COND_false _ _).2 ?_ | simp (disch := first | assumption | omega) only [gs1, gs2, decide_true, decide_false, eq_self, beq_self_eq_true, Bool.not_true, Bool.not_false]))
    refine dk_Crash (At.first zA h15 hd) inv.wf (by omega) 100 (tails := []) (fun _ _ => arr_nil) fun w16 h16 => ?_
    have hdn : (done : Int) ≤ n := by rcases rel with ⟨_, h⟩ | ⟨_, h⟩ <;> omega
    have h17 := At.join2 h15 h16 hd hA1 f8' hA2 hB2
    rw [fuse_crash rel] at h17
    have wc := wf_crash inv.wf 100 []
    have hl1 : (crash sb 100 []).dirs.length = 1 := rfl
    have hl2 : (crash sb 100 []).files.length < 1000000000 := by have := more_act sb ⟨8, 100, .empty, .empty, .slice none 0 0, .slice none 0 0⟩ [] [] inv.wf.ne; simp [act] at this; omega
    have h60 := wc.many _ (now_mem wc)
    generalize crash sb 100 [] = c at *
    (repeat (first | refine stp ?_ | (apply BND_inc; omega) | (apply BND_dec; omega) | refine BND_step (rfl : some _ = some _) ?_ | (apply cyes; first | assumption | omega) | (apply cno; first | assumption | omega) | refine (COND_true _ _).2 ?_ | refine (COND_false _ _).2 ?_ | simp (disch := first | assumption | omega) only [gs1, gs2, decide_true, decide_false, eq_self, beq_self_eq_true, Bool.not_true, Bool.not_false]))
    obtain ⟨A2, hz2, _⟩ := At.zoom h17 1 rfl
    refine dk_Names hz2 wc (by omega) fun w18 v18 G18 h18 s18 g18 f18 => ?_
    have h18' := h17.fr0 f18
    (repeat (first | refine stp ?_ | (apply BND_inc; omega) | (apply BND_dec; omega) | refine BND_step (rfl : some _ = some _) ?_ | (apply cyes; first | assumption | omega) | (apply cno; first | assumption | omega) | refine (COND_true _ _).2 ?_ | refine (COND_false _ _).2 ?_ | simp (disch := first | assumption | omega) only [gs1, gs2, decide_true, decide_false, eq_self, beq_self_eq_true, Bool.not_true, Bool.not_false]))
    obtain ⟨A3, hz3, _⟩ := At.zoom h18' 0 rfl
    refine dk_Names hz3 wc (by omega) fun w19 v19 G19 h19 s19 g19 f19 => ?_
    have h19' := h18'.fr0 f19
    (repeat (first | refine stp ?_ | (apply BND_inc; omega) | (apply BND_dec; omega) | refine BND_step (rfl : some _ = some _) ?_ | (apply cyes; first | assumption | omega) | (apply cno; first | assumption | omega) | refine (COND_true _ _).2 ?_ | refine (COND_false _ _).2 ?_ | simp (disch := first | assumption | omega) only [gs1, gs2, decide_true, decide_false, eq_self, beq_self_eq_true, Bool.not_true, Bool.not_false]))
    refine r6_Same (s18.fr f19 (by simp)).arr s19.arr (by simp; omega) fun w20 f20 => ?_
    rw [decide_eq_true rfl]
    have h20 := h19'.fr0 f20
    (repeat (first | refine stp ?_ | (apply BND_inc; omega) | (apply BND_dec; omega) | refine BND_step (rfl : some _ = some _) ?_ | (apply cyes; first | assumption | omega) | (apply cno; first | assumption | omega) | refine (COND_true _ _).2 ?_ | refine (COND_false _ _).2 ?_ | simp (disch := first | assumption | omega) only [gs1, gs2, decide_true, decide_false, eq_self, beq_self_eq_true, Bool.not_true, Bool.not_false]))
    obtain ⟨A4, hz4, _⟩ := At.zoom h20 1 rfl
    refine dk_Held hz4 wc (by omega) (by omega) fun w21 f21 => ?_
    have h21 := h20.fr0 f21
    (repeat (first | refine stp ?_ | (apply BND_inc; omega) | (apply BND_dec; omega) | refine BND_step (rfl : some _ = some _) ?_ | (apply cyes; first | assumption | omega) | (apply cno; first | assumption | omega) | refine (COND_true _ _).2 ?_ | refine (COND_false _ _).2 ?_ | simp (disch := first | assumption | omega) only [gs1, gs2, decide_true, decide_false, eq_self, beq_self_eq_true, Bool.not_true, Bool.not_false]))
    obtain ⟨A5, hz5, _⟩ := At.zoom h21 0 rfl
    refine dk_Held hz5 wc (by omega) (by omega) fun w22 f22 => ?_
    (repeat (first | refine stp ?_ | (apply BND_inc; omega) | (apply BND_dec; omega) | refine BND_step (rfl : some _ = some _) ?_ | (apply cyes; first | assumption | omega) | (apply cno; first | assumption | omega) | refine (COND_true _ _).2 ?_ | refine (COND_false _ _).2 ?_ | simp (disch := first | assumption | omega) only [gs1, gs2, decide_true, decide_false, eq_self, beq_self_eq_true, Bool.not_true, Bool.not_false]))
    exact hR _ (h21.fr0 f22).frame
end
end Go.Proofs.Ytpefokoiioeomaa
