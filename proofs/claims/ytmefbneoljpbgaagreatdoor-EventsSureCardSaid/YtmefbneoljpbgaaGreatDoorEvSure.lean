
/- The law of events that are sure, walked. Conditions: the table of the powers of ten is laid; numbers are of 64 bits; sizes. -/
import Derived.Test.YtmefbneoljpbgaaGreatDoorEvA
import Derived.Test.YtmefbneoljpbgaaGreatDoorDiskCrash
import Derived.Test.YtmefbneoljpbgaaGreatDoorDiskDo3
import Derived.Test.YtmefbneoljpbgaaGreatDoorMa
namespace Go.Proofs.YtmefbneoljpbgaaGreatDoor
open Go.Den Go.Disk Go.Vint Go.Crc Go.Frame Go.Rec Go.Ev Go.Nm
/-- one file of events, whose directory is sure. -/
structure Sole (s : Dk) (room : Int) (g : Nat) (x : List UInt8) (k : Nat) : Prop where
  ev : Ev s room [[(evN g, 0)]] [⟨x, k⟩]
theorem find_sole (g : Nat) : findD (([[(evN g, 0)]] : List Dir).getLastD []) (evN g) = some 0 := by show findD [(evN g, 0)] (evN g) = _; simp [findD]
theorem Sole.begin_ {room : Int} (hr : 16 ≤ room ∧ room ≤ 1048576) {g : Nat} (hg : okG g = true) : (evBegin (empty room) g).2 = 0 ∧ Inv (evBegin (empty room) g).1 ∧ (evBegin (empty room) g).1.dirs.length = 2 ∧ (evBegin (empty room) g).1.files.length = 1 ∧
    (dirsync (evBegin (empty room) g).1).2 = 0 ∧ Sole (dirsync (evBegin (empty room) g).1).1 room g [] 0 := by
  have h0 := Ev.empty hr
  obtain ⟨e, h⟩ := h0.begin_ hg rfl (by simp)
  obtain ⟨e2, h2⟩ := h.dirsync
  exact ⟨e, h.inv, by rw [h.dirs]; rfl, by rw [h.files]; rfl, e2, ⟨h2⟩⟩
theorem Sole.small {s : Dk} {room : Int} {g : Nat} {x : List UInt8} {k : Nat} (h : Sole s room g x k) : s.dirs.length = 1 ∧ s.files.length = 1 := by rw [h.ev.dirs, h.ev.files]; exact ⟨rfl, rfl⟩
theorem Sole.put {s : Dk} {room : Int} {g : Nat} {x : List UInt8} {k : Nat} (h : Sole s room g x k) (hg : okG g = true) {l : List Ax} (hl : GoodA l) (hr : ((x.length + (allB l).length : Nat) : Int) ≤ room) :
    (evAppend s g l).2 = 0 ∧ Sole (evAppend s g l).1 room g (x ++ allB l) k := by
  obtain ⟨e, h5⟩ := h.ev.put hg hl (find_sole g) rfl (by simpa [sumF] using hr)
  exact ⟨e, ⟨h5⟩⟩
theorem Sole.sync {s : Dk} {room : Int} {g : Nat} {x : List UInt8} {k : Nat} (h : Sole s room g x k) (hg : okG g = true) : (evSync s g).2 = 0 ∧ Sole (evSync s g).1 room g x x.length := by
  obtain ⟨e, h5⟩ := h.ev.sync (find_sole g) rfl
  unfold evSync
  rw [if_pos hg]
  exact ⟨e, ⟨h5⟩⟩
theorem Sole.load {s : Dk} {room : Int} {g : Nat} {x : List UInt8} {k : Nat} (h : Sole s room g x k) (hg : okG g = true) : evLoad s g = loadB x := h.ev.load hg (find_sole g) rfl
theorem Sole.crash {s : Dk} {room : Int} {g : Nat} {x : List UInt8} {k : Nat} (h : Sole s room g x k) (tails : List Int) : ∃ n, k ≤ n ∧ n ≤ x.length ∧ Sole (crash s 0 tails) room g (x.take n) n := by
  have hi := inv_crash h.ev.inv 0 tails
  have hs : k ≤ x.length := h.ev.inv.wf.sure ⟨x, k⟩ (by rw [h.ev.files]; simp)
  have ht := tailOf_le ⟨x, k⟩ tails 0
  simp only at ht
  refine ⟨k + tailOf ⟨x, k⟩ tails 0, by omega, by omega, ⟨⟨hi, h.ev.room_, ?_, ?_, rfl, rfl⟩⟩⟩
  · unfold Disk.crash; rw [h.ev.dirs]; rfl
  · unfold Disk.crash; rw [h.ev.dirs, h.ev.files]; rfl
theorem Sole.cut {s : Dk} {room : Int} {g : Nat} {x : List UInt8} {k : Nat} (h : Sole s room g x k) (hg : okG g = true) {e : Nat} (he : e ≤ x.length) : (evCut s g e).2 = 0 ∧ ∃ m, Sole (evCut s g e).1 room g (x.take e) m := by
  have hr := h.ev.read (find_sole g) rfl
  unfold evCut
  rw [if_pos hg, hr]
  simp only [if_true]
  by_cases hl : (x.length : Int) ≤ (e : Int)
  · rw [if_pos hl]
    refine ⟨rfl, k, ?_⟩
    rw [List.take_of_length_le (by omega)]
    exact h
  · rw [if_neg hl]
    obtain ⟨q1, q2⟩ := h.ev.cut (k := e) (find_sole g) rfl he
    exact ⟨q1, _, ⟨q2⟩⟩
theorem last_end {l : List Ax} (h : 0 < (endsF 0 l).length) : (endsF 0 l)[(endsF 0 l).length - 1]? = some (allB l).length := by
  have h1 := endsF_len 0 l
  have := endsF_at 0 l (l.length - 1) (by omega)
  rw [h1, this, Nat.sub_add_cancel (by omega), List.take_length, Nat.zero_add]
theorem allB_app (a b : List Ax) : allB (a ++ b) = allB a ++ allB b := by simp [allB]
theorem tabF_re {w w1 : World} {A : List Nat} (hT : Tab w) (f : Fr [] w w1) (hA : ∀ b ∈ A, b ∈ ([] : List Nat) ∨ hsz w ≤ b) : TabF w1 A := fun w' fr => (hT.fr f).far fr fun hb => by
  obtain ⟨T, g, b⟩ := hT
  have h1 := blk_lt b
  have h2 := hA _ hb
  simp at h2
  omega
set_option linter.unusedSimpArgs false
set_option linter.unusedVariables false
set_option maxRecDepth 20000
set_option maxHeartbeats 4000000
attribute [local congr] BND_cg COND_cg GEF_cg
attribute [local irreducible] capl slicea load1 loadn iaddr iaddra faddr storev newslice binv lookv mupd mdel mlenv mentry mestore slicev slicev3 slices indexs indexav textv rangev nexts clearv shiftv eqaggv convi buildv pickv lens lenl unv nilchk extractv partn JOIN
section
variable {w : World} {R : Value → World → Prop}
theorem ev_Sure (hT : Tab w) (g : Nat) (hg64 : g < 18446744073709551616) {av bv cv tv : Value} {xa xb xc : List Ax} {tails : List Int} (ha : Arr encAx 8 w av xa) (hb : Arr encAx 8 w bv xb) (hc : Arr encAx 8 w cv xc) (ht : Arr encI 1 w tv tails)
    (ka : ∀ a ∈ xa, OkA a) (kb : ∀ a ∈ xb, OkA a) (kc : ∀ a ∈ xc, OkA a) (ma : xa.length * 72 ≤ 140737488351232) (mb : xb.length * 72 ≤ 140737488351232) (mc : xc.length * 72 ≤ 140737488351232) (hR : ∀ w', Fr [] w w' → R (.bool true) w') :
    CALL PR F_tumbrellaw17_EventsSure [.int .u64 (g : Int), av, bv, cv, tv] w R := by
  refine C_tumbrellaw17_EventsSure ?_
  unfold M_tumbrellaw17_EventsSure
  have hTF : TabF w [] := fun w' f => hT.fr f
  refine ev_awake hT fun w1 f1 => ?_
  (repeat (first | refine stp ?_ | (apply BND_inc; omega) | (apply BND_dec; omega) | refine BND_step (rfl : some _ = some _) ?_ | (apply cyes; first | assumption | omega) | (apply cno; first | assumption | omega) | refine (COND_true _ _).2 ?_ | refine (COND_false _ _).2 ?_ | simp (disch := first | assumption | omega) only [gs1, gs2, decide_true, decide_false, eq_self, beq_self_eq_true, Bool.not_true, Bool.not_false]))
  refine dk_New 65536 (fun h => by omega) fun hroom w2 d h2 => ?_
  have h2' := At.base f1 h2
  by_cases hg1 : (1000 : Int) < (g : Int)
  · (repeat (first | refine BND_step ptr_nil ?_ | refine stp ?_ | (apply BND_inc; omega) | (apply BND_dec; omega) | refine BND_step (rfl : some _ = some _) ?_ | (apply cyes; first | assumption | omega) | (apply cno; first | assumption | omega) | refine (COND_true _ _).2 ?_ | refine (COND_false _ _).2 ?_ | simp (disch := first | assumption | omega) only [gs1, gs2, decide_true, decide_false, eq_self, beq_self_eq_true, Bool.not_true, Bool.not_false]))
    exact hR _ h2'.frame
  by_cases ht3 : (300 : Int) < (tails.length : Int)
  · (repeat (first | refine BND_step ptr_nil ?_ | refine BND_step ht.len ?_ | refine stp ?_ | (apply BND_inc; omega) | (apply BND_dec; omega) | refine BND_step (rfl : some _ = some _) ?_ | (apply cyes; first | assumption | omega) | (apply cno; first | assumption | omega) | refine (COND_true _ _).2 ?_ | refine (COND_false _ _).2 ?_ | simp (disch := first | assumption | omega) only [gs1, gs2, decide_true, decide_false, eq_self, beq_self_eq_true, Bool.not_true, Bool.not_false]))
    exact hR _ h2'.frame
  have hg : okG g = true := okG_iff.2 (by omega)
  (repeat (first | refine BND_step ptr_nil ?_ | refine BND_step ht.len ?_ | refine stp ?_ | (apply BND_inc; omega) | (apply BND_dec; omega) | refine BND_step (rfl : some _ = some _) ?_ | (apply cyes; first | assumption | omega) | (apply cno; first | assumption | omega) | refine (COND_true _ _).2 ?_ | refine (COND_false _ _).2 ?_ | simp (disch := first | assumption | omega) only [gs1, gs2, decide_true, decide_false, eq_self, beq_self_eq_true, Bool.not_true, Bool.not_false]))
  refine ev_own (ha.fr h2'.frame (by simp)) ma fun w3 v3 G3 s3 g3 f3 => ?_
  have h3 := h2'.fr0 f3
  (repeat (first | refine stp ?_ | (apply BND_inc; omega) | (apply BND_dec; omega) | refine BND_step (rfl : some _ = some _) ?_ | (apply cyes; first | assumption | omega) | (apply cno; first | assumption | omega) | refine (COND_true _ _).2 ?_ | refine (COND_false _ _).2 ?_ | simp (disch := first | assumption | omega) only [gs1, gs2, decide_true, decide_false, eq_self, beq_self_eq_true, Bool.not_true, Bool.not_false]))
  refine ev_Large s3.arr 20 (by omega) ?_
  cases hla : largeA xa 20 with
  | true =>
    (repeat (first | refine stp ?_ | (apply BND_inc; omega) | (apply BND_dec; omega) | refine BND_step (rfl : some _ = some _) ?_ | (apply cyes; first | assumption | omega) | (apply cno; first | assumption | omega) | refine (COND_true _ _).2 ?_ | refine (COND_false _ _).2 ?_ | simp (disch := first | assumption | omega) only [gs1, gs2, decide_true, decide_false, eq_self, beq_self_eq_true, Bool.not_true, Bool.not_false]))
    exact hR _ h3.frame
  | false =>
  obtain ⟨na, _⟩ := largeA_no hla
  (repeat (first | refine stp ?_ | (apply BND_inc; omega) | (apply BND_dec; omega) | refine BND_step (rfl : some _ = some _) ?_ | (apply cyes; first | assumption | omega) | (apply cno; first | assumption | omega) | refine (COND_true _ _).2 ?_ | refine (COND_false _ _).2 ?_ | simp (disch := first | assumption | omega) only [gs1, gs2, decide_true, decide_false, eq_self, beq_self_eq_true, Bool.not_true, Bool.not_false]))
  refine ev_own (hb.fr h3.frame (by simp)) mb fun w5 v5 G5 s5 g5 f5 => ?_
  have h5 := h3.fr0 f5
  (repeat (first | refine stp ?_ | (apply BND_inc; omega) | (apply BND_dec; omega) | refine BND_step (rfl : some _ = some _) ?_ | (apply cyes; first | assumption | omega) | (apply cno; first | assumption | omega) | refine (COND_true _ _).2 ?_ | refine (COND_false _ _).2 ?_ | simp (disch := first | assumption | omega) only [gs1, gs2, decide_true, decide_false, eq_self, beq_self_eq_true, Bool.not_true, Bool.not_false]))
  refine ev_Large s5.arr 20 (by omega) ?_
  cases hlb : largeA xb 20 with
  | true =>
    (repeat (first | refine stp ?_ | (apply BND_inc; omega) | (apply BND_dec; omega) | refine BND_step (rfl : some _ = some _) ?_ | (apply cyes; first | assumption | omega) | (apply cno; first | assumption | omega) | refine (COND_true _ _).2 ?_ | refine (COND_false _ _).2 ?_ | simp (disch := first | assumption | omega) only [gs1, gs2, decide_true, decide_false, eq_self, beq_self_eq_true, Bool.not_true, Bool.not_false]))
    exact hR _ h5.frame
  | false =>
  obtain ⟨nb, _⟩ := largeA_no hlb
  (repeat (first | refine stp ?_ | (apply BND_inc; omega) | (apply BND_dec; omega) | refine BND_step (rfl : some _ = some _) ?_ | (apply cyes; first | assumption | omega) | (apply cno; first | assumption | omega) | refine (COND_true _ _).2 ?_ | refine (COND_false _ _).2 ?_ | simp (disch := first | assumption | omega) only [gs1, gs2, decide_true, decide_false, eq_self, beq_self_eq_true, Bool.not_true, Bool.not_false]))
  refine ev_own (hc.fr h5.frame (by simp)) mc fun w7 v7 G7 s7 g7 f7 => ?_
  have h7 := h5.fr0 f7
  (repeat (first | refine stp ?_ | (apply BND_inc; omega) | (apply BND_dec; omega) | refine BND_step (rfl : some _ = some _) ?_ | (apply cyes; first | assumption | omega) | (apply cno; first | assumption | omega) | refine (COND_true _ _).2 ?_ | refine (COND_false _ _).2 ?_ | simp (disch := first | assumption | omega) only [gs1, gs2, decide_true, decide_false, eq_self, beq_self_eq_true, Bool.not_true, Bool.not_false]))
  refine ev_Large s7.arr 20 (by omega) ?_
  cases hlc : largeA xc 20 with
  | true =>
    (repeat (first | refine stp ?_ | (apply BND_inc; omega) | (apply BND_dec; omega) | refine BND_step (rfl : some _ = some _) ?_ | (apply cyes; first | assumption | omega) | (apply cno; first | assumption | omega) | refine (COND_true _ _).2 ?_ | refine (COND_false _ _).2 ?_ | simp (disch := first | assumption | omega) only [gs1, gs2, decide_true, decide_false, eq_self, beq_self_eq_true, Bool.not_true, Bool.not_false]))
    exact hR _ h7.frame
  | false =>
  obtain ⟨nc, _⟩ := largeA_no hlc
  (repeat (first | refine stp ?_ | (apply BND_inc; omega) | (apply BND_dec; omega) | refine BND_step (rfl : some _ = some _) ?_ | (apply cyes; first | assumption | omega) | (apply cno; first | assumption | omega) | refine (COND_true _ _).2 ?_ | refine (COND_false _ _).2 ?_ | simp (disch := first | assumption | omega) only [gs1, gs2, decide_true, decide_false, eq_self, beq_self_eq_true, Bool.not_true, Bool.not_false]))
  refine copy_step (enc := encAx) (ys := xa) (fun w9 f9 => ((ha.fr h7.frame (by simp)).fr f9 (by simp)).src encAx_len (by omega)) encAx_len encAx_one rfl (by omega) (by omega) fun v10 w10 G10 s10 g10 f10 => ?_
  have h10 := h7.fr0 f10
  refine APPEND_slc s10 ((hb.fr h10.frame (by simp)).src encAx_len (by omega)) encAx_len encAx_one rfl (by omega) (by omega) fun v11 w11 G11 s11 f11 g11 => ?_
  have g7' := f10.grow
  have f711 : Fr [] w7 w11 := f10.trans f11 fun b hb => .inr (g10 b hb)
  have gG11 : ∀ b ∈ G11, hsz w7 ≤ b := fun b hb => by
    rcases g11 b hb with h | h
    · exact g10 b h
    · omega
  have h11 := h7.fr0 f711
  refine APPEND_slc s11 ((hc.fr h11.frame (by simp)).src encAx_len (by omega)) encAx_len encAx_one rfl (by simp; omega) (by simp; omega) fun v12 w12 G12 s12 f12 g12 => ?_
  have f712 : Fr [] w7 w12 := f711.trans f12 fun b hb => .inr (gG11 b hb)
  have h12 := h7.fr0 f712
  obtain ⟨all3, hall3⟩ : ∃ l, l = xa ++ xb ++ xc := ⟨_, rfl⟩
  rw [← hall3] at s12
  have hl3 : all3.length = xa.length + xb.length + xc.length := by rw [hall3]; simp; omega
  have e12 := s12.len
  (repeat (first | refine BND_step e12 ?_ | refine stp ?_ | (apply BND_inc; omega) | (apply BND_dec; omega) | refine BND_step (rfl : some _ = some _) ?_ | (apply cyes; first | assumption | omega) | (apply cno; first | assumption | omega) | refine (COND_true _ _).2 ?_ | refine (COND_false _ _).2 ?_ | simp (disch := first | assumption | omega) only [gs1, gs2, decide_true, decide_false, eq_self, beq_self_eq_true, Bool.not_true, Bool.not_false]))
  refine loop_up 0 all3.length (fun i w' => Fr [] w12 w' ∧ ∀ a ∈ all3.take i, rightA a = true) ⟨Fr.refl _ _, by simp⟩ (by omega) ?_
  rintro i w13 - hi ⟨f13, hp⟩ J m hJ
  have h13 := h12.fr0 f13
  by_cases hlt : i < all3.length
  · have hx := List.getElem?_eq_getElem hlt
    generalize all3[i] = a at hx
    obtain ⟨bp, op, ia, ln, _, _⟩ := (s12.fr f13 (by simp)).arr.spot hx rfl .i64
    (repeat (first | refine BND_step ia ?_ | refine BND_step ln ?_ | refine stp ?_ | (apply BND_inc; omega) | (apply BND_dec; omega) | refine BND_step (rfl : some _ = some _) ?_ | (apply cyes; first | assumption | omega) | (apply cno; first | assumption | omega) | refine (COND_true _ _).2 ?_ | refine (COND_false _ _).2 ?_ | simp (disch := first | assumption | omega) only [gs1, gs2, decide_true, decide_false, eq_self, beq_self_eq_true, Bool.not_true, Bool.not_false]))
    refine box_step (n := 8) (zs := encAx zeroA) (vs := encAx a) rfl rfl (encAx_one _) (by simp [encAx]) fun w15 b15 f15 z15 => ?_
    (repeat (first | refine BND_step (loadn_all' b15 rfl) ?_ | refine stp ?_ | (apply BND_inc; omega) | (apply BND_dec; omega) | refine BND_step (rfl : some _ = some _) ?_ | (apply cyes; first | assumption | omega) | (apply cno; first | assumption | omega) | refine (COND_true _ _).2 ?_ | refine (COND_false _ _).2 ?_ | simp (disch := first | assumption | omega) only [gs1, gs2, decide_true, decide_false, eq_self, beq_self_eq_true, Bool.not_true, Bool.not_false]))
    refine op_Right a fun w16 f16 => ?_
    cases hr : rightA a with
    | false =>
      (repeat (first | refine stp ?_ | (apply BND_inc; omega) | (apply BND_dec; omega) | refine BND_step (rfl : some _ = some _) ?_ | (apply cyes; first | assumption | omega) | (apply cno; first | assumption | omega) | refine (COND_true _ _).2 ?_ | refine (COND_false _ _).2 ?_ | simp (disch := first | assumption | omega) only [gs1, gs2, decide_true, decide_false, eq_self, beq_self_eq_true, Bool.not_true, Bool.not_false]))
      exact hR _ ((h13.fr0 f15).fr0 f16).frame
    | true =>
      (repeat (first | refine stp ?_ | (apply BND_inc; omega) | (apply BND_dec; omega) | refine BND_step (rfl : some _ = some _) ?_ | (apply cyes; first | assumption | omega) | (apply cno; first | assumption | omega) | refine (COND_true _ _).2 ?_ | refine (COND_false _ _).2 ?_ | simp (disch := first | assumption | omega) only [gs1, gs2, decide_true, decide_false, eq_self, beq_self_eq_true, Bool.not_true, Bool.not_false]))
      refine hJ _ hlt ⟨(f13.trans' f15).trans' f16, fun b hb => ?_⟩
      rw [take_snoc hx] at hb
      rcases List.mem_append.1 hb with hb | hb
      · exact hp b hb
      · simp at hb; subst hb; exact hr
  obtain rfl : i = all3.length := by omega
  rw [List.take_length] at hp
  have ga : GoodA xa := fun a h => ⟨hp a (by rw [hall3]; simp [h]), ka a h⟩
  have gb : GoodA xb := fun a h => ⟨hp a (by rw [hall3]; simp [h]), kb a h⟩
  have gc : GoodA xc := fun a h => ⟨hp a (by rw [hall3]; simp [h]), kc a h⟩
  have la := allB_len ga
  have lb := allB_len gb
  have lc := allB_len gc
  (repeat (first | refine stp ?_ | (apply BND_inc; omega) | (apply BND_dec; omega) | refine BND_step (rfl : some _ = some _) ?_ | (apply cyes; first | assumption | omega) | (apply cno; first | assumption | omega) | refine (COND_true _ _).2 ?_ | refine (COND_false _ _).2 ?_ | simp (disch := first | assumption | omega) only [gs1, gs2, decide_true, decide_false, eq_self, beq_self_eq_true, Bool.not_true, Bool.not_false]))
  obtain ⟨e1, i1, d1, n1, e1', o1⟩ := Sole.begin_ hroom hg
  refine ev_Begin hTF h13 (inv_empty hroom) (by simp [empty]) g hg64 fun w17 h17 => ?_
  rw [e1]
  generalize (evBegin (empty 65536) g).1 = s1 at h17 i1 d1 n1 e1' o1
  (repeat (first | refine stp ?_ | (apply BND_inc; omega) | (apply BND_dec; omega) | refine BND_step (rfl : some _ = some _) ?_ | (apply cyes; first | assumption | omega) | (apply cno; first | assumption | omega) | refine (COND_true _ _).2 ?_ | refine (COND_false _ _).2 ?_ | simp (disch := first | assumption | omega) only [gs1, gs2, decide_true, decide_false, eq_self, beq_self_eq_true, Bool.not_true, Bool.not_false]))
  refine dk_DirSync h17 i1.wf (by omega) fun w18 h18 => ?_
  rw [e1']
  generalize (dirsync s1).1 = s2 at h18 o1
  have m1 := o1.small
  (repeat (first | refine stp ?_ | (apply BND_inc; omega) | (apply BND_dec; omega) | refine BND_step (rfl : some _ = some _) ?_ | (apply cyes; first | assumption | omega) | (apply cno; first | assumption | omega) | refine (COND_true _ _).2 ?_ | refine (COND_false _ _).2 ?_ | simp (disch := first | assumption | omega) only [gs1, gs2, decide_true, decide_false, eq_self, beq_self_eq_true, Bool.not_true, Bool.not_false]))
  obtain ⟨e2, o2⟩ := o1.put hg ga (by simp; omega)
  refine ev_Append hTF h18 o1.ev.inv (by omega) (by omega) g hg64 (ha.fr h18.frame (by simp)) ka (by omega) fun w19 h19 => ?_
  rw [e2]
  generalize (evAppend s2 g xa).1 = s3 at h19 o2
  rw [List.nil_append] at o2
  have m2 := o2.small
  (repeat (first | refine stp ?_ | (apply BND_inc; omega) | (apply BND_dec; omega) | refine BND_step (rfl : some _ = some _) ?_ | (apply cyes; first | assumption | omega) | (apply cno; first | assumption | omega) | refine (COND_true _ _).2 ?_ | refine (COND_false _ _).2 ?_ | simp (disch := first | assumption | omega) only [gs1, gs2, decide_true, decide_false, eq_self, beq_self_eq_true, Bool.not_true, Bool.not_false]))
  obtain ⟨e3, o3⟩ := o2.sync hg
  refine ev_Sync hTF h19 o2.ev.inv (by omega) g hg64 fun w20 h20 => ?_
  rw [e3]
  generalize (evSync s3 g).1 = s4 at h20 o3
  (repeat (first | refine BND_step hb.len ?_ | refine stp ?_ | (apply BND_inc; omega) | (apply BND_dec; omega) | refine BND_step (rfl : some _ = some _) ?_ | (apply cyes; first | assumption | omega) | (apply cno; first | assumption | omega) | refine (COND_true _ _).2 ?_ | refine (COND_false _ _).2 ?_ | simp (disch := first | assumption | omega) only [gs1, gs2, decide_true, decide_false, eq_self, beq_self_eq_true, Bool.not_true, Bool.not_false]))
  refine loop_up 0 xb.length (fun i w' => ∃ s, At w [] (diskHP d s) w' ∧ Sole s 65536 g (allB xa ++ allB (xb.take i)) (allB xa).length) ⟨s4, h20, by simpa [allB] using o3⟩ (by omega) ?_
  rintro i w21 - hi2 ⟨s5, h21, o5⟩ J2 m2' hJ2
  have m5 := o5.small
  by_cases hlt2 : i < xb.length
  · have hx := List.getElem?_eq_getElem hlt2
    have hm := List.getElem_mem hlt2
    generalize xb[i] = a at hx hm
    obtain ⟨bp, op, ia, ln, _, _⟩ := (hb.fr h21.frame (by simp)).spot hx rfl .i64
    (repeat (first | refine BND_step ia ?_ | refine BND_step ln ?_ | refine stp ?_ | (apply BND_inc; omega) | (apply BND_dec; omega) | refine BND_step (rfl : some _ = some _) ?_ | (apply cyes; first | assumption | omega) | (apply cno; first | assumption | omega) | refine (COND_true _ _).2 ?_ | refine (COND_false _ _).2 ?_ | simp (disch := first | assumption | omega) only [gs1, gs2, decide_true, decide_false, eq_self, beq_self_eq_true, Bool.not_true, Bool.not_false]))
    refine box_step (n := 8) (zs := encAx zeroA) (vs := encAx a) rfl rfl (encAx_one _) (by simp [encAx]) fun w23 b23 f23 z23 => ?_
    (repeat (first | refine BND_step (loadn_all' b23 rfl) ?_ | refine stp ?_ | (apply BND_inc; omega) | (apply BND_dec; omega) | refine BND_step (rfl : some _ = some _) ?_ | (apply cyes; first | assumption | omega) | (apply cno; first | assumption | omega) | refine (COND_true _ _).2 ?_ | refine (COND_false _ _).2 ?_ | simp (disch := first | assumption | omega) only [gs1, gs2, decide_true, decide_false, eq_self, beq_self_eq_true, Bool.not_true, Bool.not_false]))
    refine newone_step (x := a) encAx_len rfl fun t24 w24 s24 f24 z24 => ?_
    have h24 := (h21.fr0 f23).fr0 f24
    have hga : GoodA [a] := fun b hb => by simp at hb; subst hb; exact gb _ hm
    have hb1 := allB_len hga
    have hb2 := allB_len (l := xb.take i) fun b hb => gb b (List.mem_of_mem_take hb)
    have htl : (xb.take i).length = i := by rw [List.length_take]; omega
    obtain ⟨q1, q2⟩ := o5.put hg hga (by simp at hb1 ⊢; omega)
    refine ev_Append hTF h24 o5.ev.inv (by omega) (by omega) g hg64 s24.arr (fun b hb => (hga b hb).2) (by simp) fun w25 h25 => ?_
    rw [q1]
    (repeat (first | refine stp ?_ | (apply BND_inc; omega) | (apply BND_dec; omega) | refine BND_step (rfl : some _ = some _) ?_ | (apply cyes; first | assumption | omega) | (apply cno; first | assumption | omega) | refine (COND_true _ _).2 ?_ | refine (COND_false _ _).2 ?_ | simp (disch := first | assumption | omega) only [gs1, gs2, decide_true, decide_false, eq_self, beq_self_eq_true, Bool.not_true, Bool.not_false]))
    refine hJ2 _ hlt2 ⟨_, h25, ?_⟩
    rw [take_snoc hx, allB_app, ← List.append_assoc]
    exact q2
  obtain rfl : i = xb.length := by omega
  rw [List.take_length, ← allB_app] at o5
  have gab : GoodA (xa ++ xb) := fun a h => (List.mem_append.1 h).elim (ga a) (gb a)
  (repeat (first | refine stp ?_ | (apply BND_inc; omega) | (apply BND_dec; omega) | refine BND_step (rfl : some _ = some _) ?_ | (apply cyes; first | assumption | omega) | (apply cno; first | assumption | omega) | refine (COND_true _ _).2 ?_ | refine (COND_false _ _).2 ?_ | simp (disch := first | assumption | omega) only [gs1, gs2, decide_true, decide_false, eq_self, beq_self_eq_true, Bool.not_true, Bool.not_false]))
  obtain ⟨n, n1, n2, o6⟩ := o5.crash tails
  refine dk_Crash h21 o5.ev.inv.wf (by omega) 0 (tails := tails) (fun w' f => ht.fr f (by simp)) fun w26 h26 => ?_
  generalize crash s5 0 tails = s6 at h26 o6
  have m6 := o6.small
  obtain ⟨j, j1, j2, j3, j4, j5⟩ := loadB_cut gab n
  have jl := j3 xa.length (by rw [List.take_left]; exact n1) (by simp)
  (repeat (first | refine stp ?_ | (apply BND_inc; omega) | (apply BND_dec; omega) | refine BND_step (rfl : some _ = some _) ?_ | (apply cyes; first | assumption | omega) | (apply cno; first | assumption | omega) | refine (COND_true _ _).2 ?_ | refine (COND_false _ _).2 ?_ | simp (disch := first | assumption | omega) only [gs1, gs2, decide_true, decide_false, eq_self, beq_self_eq_true, Bool.not_true, Bool.not_false]))
  refine ev_Load hTF h26 o6.ev.inv (by omega) g hg64 fun w27 v27 ev27 G27 E27 s27 se27 gG gE f27 => ?_
  rw [o6.load hg, j2] at s27 se27 ⊢
  obtain ⟨l, hl⟩ : ∃ l, l = (xa ++ xb).take j := ⟨_, rfl⟩
  simp only at s27 se27 ⊢
  rw [← hl] at s27 se27
  rw [← hl] at j4 j5
  have hll : l.length = j := by rw [hl, List.length_take]; omega
  have gl : GoodA l := fun a h => gab a (List.mem_of_mem_take (by rw [hl] at h; exact h))
  have h27 := h26.fr0 f27
  (repeat (first | refine stp ?_ | (apply BND_inc; omega) | (apply BND_dec; omega) | refine BND_step (rfl : some _ = some _) ?_ | (apply cyes; first | assumption | omega) | (apply cno; first | assumption | omega) | refine (COND_true _ _).2 ?_ | refine (COND_false _ _).2 ?_ | simp (disch := first | assumption | omega) only [gs1, gs2, decide_true, decide_false, eq_self, beq_self_eq_true, Bool.not_true, Bool.not_false]))
  refine copy_step (enc := encAx) (ys := xa) (fun w9 f9 => ((ha.fr h27.frame (by simp)).fr f9 (by simp)).src encAx_len (by omega)) encAx_len encAx_one rfl (by omega) (by omega) fun v29 w29 G29 s29 g29 f29 => ?_
  have h29 := h27.fr0 f29
  refine APPEND_slc s29 ((hb.fr h29.frame (by simp)).src encAx_len (by omega)) encAx_len encAx_one rfl (by omega) (by omega) fun v30 w30 G30 s30 f30 g30 => ?_
  have g27' := f29.grow
  have f2730 : Fr [] w27 w30 := f29.trans f30 fun b hb => .inr (g29 b hb)
  have h30 := (h27.fr0 f2730).fr0 (Fr.drew [] w30)
  have f2730d := f2730.trans' (Fr.drew [] w30)
  have s30d := s30.fr (Fr.drew [] w30) (by simp)
  have s27d := s27.fr f2730d (by simp)
  have se27d := se27.fr f2730d (by simp)
  have el := s27.len
  have ee := se27.len
  rw [endsF_len] at ee
  have ea := s30.len
  rw [List.length_append] at ea j1
  obtain ⟨v31, sl31, ar31⟩ := s30d.pre (n := l.length) (by rw [List.length_append]; omega)
  rw [hll, ← hl] at ar31
  have c1 : ¬ (l.length : Int) < (xa.length : Int) := by omega
  have c2 : ¬ ((xa.length + xb.length : Nat) : Int) < (l.length : Int) := by omega
  (repeat (first | refine BND_step el ?_ | refine BND_step ha.len ?_ | refine BND_step ea ?_ | refine BND_step ee ?_ | refine BND_step sl31 ?_ | refine stp ?_ | (apply BND_inc; omega) | (apply BND_dec; omega) | refine BND_step (rfl : some _ = some _) ?_ | (apply cyes; first | assumption | omega) | (apply cno; first | assumption | omega) | refine (COND_true _ _).2 ?_ | refine (COND_false _ _).2 ?_ | simp (disch := first | assumption | omega) only [gs1, gs2, decide_true, decide_false, eq_self, beq_self_eq_true, Bool.not_true, Bool.not_false]))
  refine ev_own s27d.arr (by omega) fun w31 v31' G31 s31 g31 f31 => ?_
  have h31 := h30.fr0 f31
  (repeat (first | refine stp ?_ | (apply BND_inc; omega) | (apply BND_dec; omega) | refine BND_step (rfl : some _ = some _) ?_ | (apply cyes; first | assumption | omega) | (apply cno; first | assumption | omega) | refine (COND_true _ _).2 ?_ | refine (COND_false _ _).2 ?_ | simp (disch := first | assumption | omega) only [gs1, gs2, decide_true, decide_false, eq_self, beq_self_eq_true, Bool.not_true, Bool.not_false]))
  refine ev_own (ar31.fr f31 (by simp)) (by omega) fun w32 v32 G32 s32 g32 f32 => ?_
  (repeat (first | refine stp ?_ | (apply BND_inc; omega) | (apply BND_dec; omega) | refine BND_step (rfl : some _ = some _) ?_ | (apply cyes; first | assumption | omega) | (apply cno; first | assumption | omega) | refine (COND_true _ _).2 ?_ | refine (COND_false _ _).2 ?_ | simp (disch := first | assumption | omega) only [gs1, gs2, decide_true, decide_false, eq_self, beq_self_eq_true, Bool.not_true, Bool.not_false]))
  refine ev_same (s31.fr f32 (by simp)).arr s32.arr (by omega) fun w33 f33 => ?_
  rw [decide_eq_true rfl]
  have f3033 := (f31.trans' f32).trans' f33
  have h33 := h30.fr0 f3033
  (repeat (first | refine BND_step ee ?_ | refine stp ?_ | (apply BND_inc; omega) | (apply BND_dec; omega) | refine BND_step (rfl : some _ = some _) ?_ | (apply cyes; first | assumption | omega) | (apply cno; first | assumption | omega) | refine (COND_true _ _).2 ?_ | refine (COND_false _ _).2 ?_ | simp (disch := first | assumption | omega) only [gs1, gs2, decide_true, decide_false, eq_self, beq_self_eq_true, Bool.not_true, Bool.not_false]))
  have hgl := allB_len gl
  refine join_v (fun v w' => v = .int .i64 ((allB l).length : Int) ∧ w33 = w') (fun K hK => ?_) ?_
  · by_cases h0 : (0 : Int) < (l.length : Int)
    · have hle := last_end (l := l) (by rw [endsF_len]; omega)
      rw [endsF_len] at hle
      obtain ⟨bq, oq, iq, _, _, lq⟩ := (se27d.fr f3033 (by simp)).arr.spot hle rfl .i64
      (repeat (first | refine BND_step ee ?_ | refine BND_step iq ?_ | (apply BND_step; exact (lq (w' := w33) rfl (j := 0) rfl)) | refine stp ?_ | (apply BND_inc; omega) | (apply BND_dec; omega) | refine BND_step (rfl : some _ = some _) ?_ | (apply cyes; first | assumption | omega) | (apply cno; first | assumption | omega) | refine (COND_true _ _).2 ?_ | refine (COND_false _ _).2 ?_ | simp (disch := first | assumption | omega) only [gs1, gs2, decide_true, decide_false, eq_self, beq_self_eq_true, Bool.not_true, Bool.not_false]))
      exact hK _ _ ⟨rfl, rfl⟩
    · (repeat (first | refine stp ?_ | (apply BND_inc; omega) | (apply BND_dec; omega) | refine BND_step (rfl : some _ = some _) ?_ | (apply cyes; first | assumption | omega) | (apply cno; first | assumption | omega) | refine (COND_true _ _).2 ?_ | refine (COND_false _ _).2 ?_ | simp (disch := first | assumption | omega) only [gs1, gs2, decide_true, decide_false, eq_self, beq_self_eq_true, Bool.not_true, Bool.not_false]))
      have : l = [] := List.length_eq_zero_iff.1 (by omega)
      exact hK _ _ ⟨by rw [this]; rfl, rfl⟩
  rintro _ _ ⟨rfl, rfl⟩
  obtain ⟨q1, k7, o7⟩ := o6.cut hg (e := (allB l).length) (by rw [List.length_take]; omega)
  have f2633 := (f27.trans' f2730d).trans' f3033
  obtain ⟨A, z33, hA, hA', back⟩ := At.re3 h26 f2633
  have hTA := tabF_re hT h33.frame hA'
  have n27 : ∀ b ∈ G27, b ∉ A := fun b hb hb' => by have := gG b hb; have := hA b hb'; omega
  refine ev_Cut hTA z33 o6.ev.inv (by omega) g hg64 ((allB l).length : Int) fun w35 z35 => ?_
  rw [q1]
  generalize (evCut s6 g ((allB l).length : Int)).1 = s7 at z35 o7
  rw [← j5] at o7
  have m7 := o7.small
  (repeat (first | refine stp ?_ | (apply BND_inc; omega) | (apply BND_dec; omega) | refine BND_step (rfl : some _ = some _) ?_ | (apply cyes; first | assumption | omega) | (apply cno; first | assumption | omega) | refine (COND_true _ _).2 ?_ | refine (COND_false _ _).2 ?_ | simp (disch := first | assumption | omega) only [gs1, gs2, decide_true, decide_false, eq_self, beq_self_eq_true, Bool.not_true, Bool.not_false]))
  obtain ⟨q2, o8⟩ := o7.put hg gc (by omega)
  refine ev_Append hTA z35 o7.ev.inv (by omega) (by omega) g hg64 (hc.fr (back _ _ z35).frame (by simp)) kc (by omega) fun w36 z36 => ?_
  rw [q2]
  generalize (evAppend s7 g xc).1 = s8 at z36 o8
  rw [← allB_app] at o8
  have m8 := o8.small
  have glc : GoodA (l ++ xc) := fun a h => (List.mem_append.1 h).elim (gl a) (gc a)
  have s36 := (s27d.fr f3033 (by simp)).fr z36.frame n27
  have h36 := back _ _ z36
  (repeat (first | refine stp ?_ | (apply BND_inc; omega) | (apply BND_dec; omega) | refine BND_step (rfl : some _ = some _) ?_ | (apply cyes; first | assumption | omega) | (apply cno; first | assumption | omega) | refine (COND_true _ _).2 ?_ | refine (COND_false _ _).2 ?_ | simp (disch := first | assumption | omega) only [gs1, gs2, decide_true, decide_false, eq_self, beq_self_eq_true, Bool.not_true, Bool.not_false]))
  refine ev_Load hTF h36 o8.ev.inv (by omega) g hg64 fun w37 v37 ev37 G37 E37 s37 se37 gG37 gE37 f37 => ?_
  rw [o8.load hg, load_all glc] at s37 ⊢
  have h37 := h36.fr0 f37
  have hlc' : (l ++ xc).length * 72 ≤ 140737488351232 := by rw [List.length_append]; omega
  (repeat (first | refine stp ?_ | (apply BND_inc; omega) | (apply BND_dec; omega) | refine BND_step (rfl : some _ = some _) ?_ | (apply cyes; first | assumption | omega) | (apply cno; first | assumption | omega) | refine (COND_true _ _).2 ?_ | refine (COND_false _ _).2 ?_ | simp (disch := first | assumption | omega) only [gs1, gs2, decide_true, decide_false, eq_self, beq_self_eq_true, Bool.not_true, Bool.not_false]))
  refine ev_own s37.arr hlc' fun w38 v38 G38 s38 g38 f38 => ?_
  have h38 := h37.fr0 f38
  (repeat (first | refine stp ?_ | (apply BND_inc; omega) | (apply BND_dec; omega) | refine BND_step (rfl : some _ = some _) ?_ | (apply cyes; first | assumption | omega) | (apply cno; first | assumption | omega) | refine (COND_true _ _).2 ?_ | refine (COND_false _ _).2 ?_ | simp (disch := first | assumption | omega) only [gs1, gs2, decide_true, decide_false, eq_self, beq_self_eq_true, Bool.not_true, Bool.not_false]))
  refine newnil_step encAx fun t39 w39 s39 f39 z39 => ?_
  (repeat (first | refine stp ?_ | (apply BND_inc; omega) | (apply BND_dec; omega) | refine BND_step (rfl : some _ = some _) ?_ | (apply cyes; first | assumption | omega) | (apply cno; first | assumption | omega) | refine (COND_true _ _).2 ?_ | refine (COND_false _ _).2 ?_ | simp (disch := first | assumption | omega) only [gs1, gs2, decide_true, decide_false, eq_self, beq_self_eq_true, Bool.not_true, Bool.not_false]))
  refine APPEND_slc s39 ((((s36.fr f37 (by simp)).fr f38 (by simp)).fr f39 (by simp)).loads encAx_len) encAx_len encAx_one rfl (by simp; omega) (by simp; omega) fun v40 w40 G40 s40 f40' g40' => ?_
  rw [List.nil_append] at s40
  have g38' := f39.grow
  have f40 : Fr [] w38 w40 := f39.trans f40' fun b hb => .inr (by simp at hb; omega)
  have g40 : ∀ b ∈ G40, hsz w38 ≤ b := fun b hb => by
    rcases g40' b hb with h | h
    · simp at h; omega
    · omega
  have h40 := h38.fr0 f40
  (repeat (first | refine stp ?_ | (apply BND_inc; omega) | (apply BND_dec; omega) | refine BND_step (rfl : some _ = some _) ?_ | (apply cyes; first | assumption | omega) | (apply cno; first | assumption | omega) | refine (COND_true _ _).2 ?_ | refine (COND_false _ _).2 ?_ | simp (disch := first | assumption | omega) only [gs1, gs2, decide_true, decide_false, eq_self, beq_self_eq_true, Bool.not_true, Bool.not_false]))
  refine APPEND_slc s40 ((hc.fr h40.frame (by simp)).src encAx_len (by omega)) encAx_len encAx_one rfl (by omega) (by omega) fun v41 w41 G41 s41 f41 g41 => ?_
  have f3841 : Fr [] w38 w41 := f40.trans f41 fun b hb => .inr (g40 b hb)
  have h41 := h38.fr0 f3841
  (repeat (first | refine stp ?_ | (apply BND_inc; omega) | (apply BND_dec; omega) | refine BND_step (rfl : some _ = some _) ?_ | (apply cyes; first | assumption | omega) | (apply cno; first | assumption | omega) | refine (COND_true _ _).2 ?_ | refine (COND_false _ _).2 ?_ | simp (disch := first | assumption | omega) only [gs1, gs2, decide_true, decide_false, eq_self, beq_self_eq_true, Bool.not_true, Bool.not_false]))
  refine ev_own s41.arr hlc' fun w42 v42 G42 s42 g42 f42 => ?_
  (repeat (first | refine stp ?_ | (apply BND_inc; omega) | (apply BND_dec; omega) | refine BND_step (rfl : some _ = some _) ?_ | (apply cyes; first | assumption | omega) | (apply cno; first | assumption | omega) | refine (COND_true _ _).2 ?_ | refine (COND_false _ _).2 ?_ | simp (disch := first | assumption | omega) only [gs1, gs2, decide_true, decide_false, eq_self, beq_self_eq_true, Bool.not_true, Bool.not_false]))
  refine ev_same ((s38.fr f3841 (by simp)).fr f42 (by simp)).arr s42.arr (show (l ++ xc).length < 1000000000 by rw [List.length_append]; omega) fun w43 f43 => ?_
  rw [decide_eq_true rfl]
  (repeat (first | refine stp ?_ | (apply BND_inc; omega) | (apply BND_dec; omega) | refine BND_step (rfl : some _ = some _) ?_ | (apply cyes; first | assumption | omega) | (apply cno; first | assumption | omega) | refine (COND_true _ _).2 ?_ | refine (COND_false _ _).2 ?_ | simp (disch := first | assumption | omega) only [gs1, gs2, decide_true, decide_false, eq_self, beq_self_eq_true, Bool.not_true, Bool.not_false]))
  exact hR _ ((h41.fr0 f42).fr0 f43).frame
end
end Go.Proofs.YtmefbneoljpbgaaGreatDoor
