
/- The law of events that are put at once, walked. Conditions: the table of the powers of ten is laid; numbers are of 64 bits. -/
import Derived.Test.YtmefbneoljpbgaaDoorEvA
import Derived.Test.YtmefbneoljpbgaaDoorMa
namespace Go.Proofs.YtmefbneoljpbgaaDoor
open Go.Den Go.Disk Go.Vint Go.Crc Go.Frame Go.Rec Go.Ev Go.Nm
/-- two files of events. -/
structure Duo (s : Dk) (room : Int) (x y : List UInt8) : Prop where
  ex : ∃ ds k m, Ev s room ds [⟨x, k⟩, ⟨y, m⟩] ∧ findD (ds.getLastD []) (evN 1) = some 0 ∧ findD (ds.getLastD []) (evN 2) = some 1 ∧ ds.length ≤ 3
theorem g1_ : okG 1 = true := by decide
theorem g2_ : okG 2 = true := by decide
theorem Duo.inv {s : Dk} {room : Int} {x y : List UInt8} (h : Duo s room x y) : Inv s := by obtain ⟨_, _, _, h, _⟩ := h.ex; exact h.inv
theorem Duo.small {s : Dk} {room : Int} {x y : List UInt8} (h : Duo s room x y) : s.dirs.length ≤ 3 ∧ s.files.length = 2 := by
  obtain ⟨_, _, _, h, _, _, h2⟩ := h.ex
  rw [h.dirs, h.files]; exact ⟨h2, rfl⟩
theorem Duo.begin_ {s : Dk} {room : Int} (h : One s room 1 []) : (evBegin s 2).2 = 0 ∧ Duo (evBegin s 2).1 room [] [] := by
  obtain ⟨ds, k, h1, h2, h3, h4⟩ := h.ex
  have hf := h4 2 (by omega)
  have hl : (ds.getLastD []).length < 60 := by
    have := h1.inv.wf.many _ (now_mem h1.inv.wf)
    rw [h1.now] at this
    refine Nat.lt_of_le_of_ne this fun e => ?_
    have hn := h1.inv.one _ (now_mem h1.inv.wf)
    rw [h1.now] at hn
    have hi := h1.inv.wf.idx _ (now_mem h1.inv.wf)
    rw [h1.now, h1.files] at hi
    have := nodup_len hn (n := 1) fun f hf => by
      obtain ⟨x, hx, rfl⟩ := List.mem_map.1 hf
      have := hi x hx
      simpa using this
    rw [List.length_map] at this
    omega
  obtain ⟨e, h5⟩ := h1.begin_ g2_ hf hl
  have hlast : (ds ++ [withD (ds.getLastD []) (evN 2, ([⟨[], k⟩] : List Fl).length)]).getLastD [] = withD (ds.getLastD []) (evN 2, 1) := by simp
  refine ⟨e, ⟨_, k, 0, h5, ?_, ?_, by simp; omega⟩⟩
  · rw [hlast, h1.found hf, if_neg (evN_ne (by omega))]; exact h2
  · rw [hlast, h1.found hf, if_pos rfl]
theorem Duo.put1 {s : Dk} {room : Int} {x y : List UInt8} (h : Duo s room x y) {l : List Ax} (hl : GoodA l) (hr : ((x.length + y.length + (allB l).length : Nat) : Int) ≤ room) :
    (evAppend s 1 l).2 = 0 ∧ Duo (evAppend s 1 l).1 room (x ++ allB l) y := by
  obtain ⟨ds, k, m, h1, h2, h3, h4⟩ := h.ex
  obtain ⟨e, h5⟩ := h1.put g1_ hl h2 rfl (by simp [sumF]; omega)
  exact ⟨e, ⟨ds, k, m, h5, h2, h3, h4⟩⟩
theorem Duo.put2 {s : Dk} {room : Int} {x y : List UInt8} (h : Duo s room x y) {l : List Ax} (hl : GoodA l) (hr : ((x.length + y.length + (allB l).length : Nat) : Int) ≤ room) :
    (evAppend s 2 l).2 = 0 ∧ Duo (evAppend s 2 l).1 room x (y ++ allB l) := by
  obtain ⟨ds, k, m, h1, h2, h3, h4⟩ := h.ex
  obtain ⟨e, h5⟩ := h1.put g2_ hl h3 rfl (by simp [sumF]; omega)
  exact ⟨e, ⟨ds, k, m, h5, h2, h3, h4⟩⟩
theorem Duo.load1 {s : Dk} {room : Int} {x y : List UInt8} (h : Duo s room x y) : evLoad s 1 = loadB x := by
  obtain ⟨ds, k, m, h1, h2, h3, h4⟩ := h.ex
  exact h1.load g1_ h2 rfl
theorem Duo.load2 {s : Dk} {room : Int} {x y : List UInt8} (h : Duo s room x y) : evLoad s 2 = loadB y := by
  obtain ⟨ds, k, m, h1, h2, h3, h4⟩ := h.ex
  exact h1.load g2_ h3 rfl
theorem load_none : loadB [] = ([], [], 0) := by
  have := load_all (l := []) (fun a ha => by simp at ha)
  simpa [allB, endsF] using this
theorem append_bad {s : Dk} {l : List Ax} (h : l.all rightA = false) : evAppend s 1 l = (s, 1) := by unfold evAppend; rw [if_pos g1_, h]; rfl
set_option linter.unusedSimpArgs false
set_option linter.unusedVariables false
set_option maxRecDepth 20000
set_option maxHeartbeats 4000000
attribute [local congr] BND_cg COND_cg GEF_cg
attribute [local irreducible] capl slicea load1 loadn iaddr iaddra faddr storev newslice binv lookv mupd mdel mlenv mentry mestore slicev slicev3 slices indexs indexav textv rangev nexts clearv shiftv eqaggv convi buildv pickv lens lenl unv nilchk extractv partn JOIN
section
variable {w : World} {R : Value → World → Prop}
theorem ev_Once (hT : Tab w) {lv : Value} {xs : List Ax} (ha : Arr encAx 8 w lv xs) (hk : ∀ a ∈ xs, OkA a) (hbig : xs.length * 72 ≤ 140737488351232) (hR : ∀ w', Fr [] w w' → R (.bool true) w') : CALL PR F_tumbrellaw17_EventsOnce [lv] w R := by
  refine C_tumbrellaw17_EventsOnce ?_
  unfold M_tumbrellaw17_EventsOnce
  have hTF : TabF w [] := fun w' f => hT.fr f
  refine ev_awake hT fun w1 f1 => ?_
  (repeat (first | refine stp ?_ | (apply BND_inc; omega) | (apply BND_dec; omega) | refine BND_step (rfl : some _ = some _) ?_ | (apply cyes; first | assumption | omega) | (apply cno; first | assumption | omega) | refine (COND_true _ _).2 ?_ | refine (COND_false _ _).2 ?_ | simp (disch := first | assumption | omega) only [gs1, gs2, decide_true, decide_false, eq_self, beq_self_eq_true, Bool.not_true, Bool.not_false]))
  refine dk_New 65536 (fun h => by omega) fun hroom w2 d h2 => ?_
  have h2' := At.base f1 h2
  (repeat (first | refine BND_step ptr_nil ?_ | refine stp ?_ | (apply BND_inc; omega) | (apply BND_dec; omega) | refine BND_step (rfl : some _ = some _) ?_ | (apply cyes; first | assumption | omega) | (apply cno; first | assumption | omega) | refine (COND_true _ _).2 ?_ | refine (COND_false _ _).2 ?_ | simp (disch := first | assumption | omega) only [gs1, gs2, decide_true, decide_false, eq_self, beq_self_eq_true, Bool.not_true, Bool.not_false]))
  refine ev_own (ha.fr h2'.frame (by simp)) hbig fun w3 v3 G3 s3 g3 f3 => ?_
  (repeat (first | refine stp ?_ | (apply BND_inc; omega) | (apply BND_dec; omega) | refine BND_step (rfl : some _ = some _) ?_ | (apply cyes; first | assumption | omega) | (apply cno; first | assumption | omega) | refine (COND_true _ _).2 ?_ | refine (COND_false _ _).2 ?_ | simp (disch := first | assumption | omega) only [gs1, gs2, decide_true, decide_false, eq_self, beq_self_eq_true, Bool.not_true, Bool.not_false]))
  refine ev_Large s3.arr 20 (by omega) ?_
  have h3 := h2'.fr0 f3
  cases hlg : largeA xs 20 with
  | true =>
    (repeat (first | refine stp ?_ | (apply BND_inc; omega) | (apply BND_dec; omega) | refine BND_step (rfl : some _ = some _) ?_ | (apply cyes; first | assumption | omega) | (apply cno; first | assumption | omega) | refine (COND_true _ _).2 ?_ | refine (COND_false _ _).2 ?_ | simp (disch := first | assumption | omega) only [gs1, gs2, decide_true, decide_false, eq_self, beq_self_eq_true, Bool.not_true, Bool.not_false]))
    exact hR _ h3.frame
  | false =>
  obtain ⟨hn, _⟩ := largeA_no hlg
  (repeat (first | refine stp ?_ | (apply BND_inc; omega) | (apply BND_dec; omega) | refine BND_step (rfl : some _ = some _) ?_ | (apply cyes; first | assumption | omega) | (apply cno; first | assumption | omega) | refine (COND_true _ _).2 ?_ | refine (COND_false _ _).2 ?_ | simp (disch := first | assumption | omega) only [gs1, gs2, decide_true, decide_false, eq_self, beq_self_eq_true, Bool.not_true, Bool.not_false]))
  obtain ⟨e1, o1⟩ := One.begin_ hroom g1_
  refine ev_Begin hTF h3 (inv_empty hroom) (by simp [empty]) 1 (by omega) fun w5 h5 => ?_
  rw [e1]
  generalize (evBegin (empty 65536) 1).1 = s1 at h5 o1
  (repeat (first | refine stp ?_ | (apply BND_inc; omega) | (apply BND_dec; omega) | refine BND_step (rfl : some _ = some _) ?_ | (apply cyes; first | assumption | omega) | (apply cno; first | assumption | omega) | refine (COND_true _ _).2 ?_ | refine (COND_false _ _).2 ?_ | simp (disch := first | assumption | omega) only [gs1, gs2, decide_true, decide_false, eq_self, beq_self_eq_true, Bool.not_true, Bool.not_false]))
  obtain ⟨e2, o2⟩ := Duo.begin_ o1
  refine ev_Begin hTF h5 o1.inv (by have := o1.small; omega) 2 (by omega) fun w6 h6 => ?_
  rw [e2]
  generalize (evBegin s1 2).1 = s2 at h6 o2
  have dm := o2.small
  (repeat (first | refine stp ?_ | (apply BND_inc; omega) | (apply BND_dec; omega) | refine BND_step (rfl : some _ = some _) ?_ | (apply cyes; first | assumption | omega) | (apply cno; first | assumption | omega) | refine (COND_true _ _).2 ?_ | refine (COND_false _ _).2 ?_ | simp (disch := first | assumption | omega) only [gs1, gs2, decide_true, decide_false, eq_self, beq_self_eq_true, Bool.not_true, Bool.not_false]))
  refine ev_Append hTF h6 o2.inv (by omega) (by omega) 1 (by omega) (ha.fr h6.frame (by simp)) hk (by omega) fun w7 h7 => ?_
  obtain ⟨X, e, s3, o3, h7', hX⟩ : ∃ X e s3, Duo s3 65536 X [] ∧ At w [] (diskHP d s3) w7 ∧ ((evAppend s2 1 xs).2 = e ∧ (xs.all rightA = true → e = 0 ∧ X = allB xs) ∧ (xs.all rightA = false → e = 1 ∧ X = [])) := by
    cases hr : xs.all rightA with
    | true =>
      have hg : GoodA xs := fun a h => ⟨List.all_eq_true.1 hr a h, hk a h⟩
      have hb := allB_len hg
      obtain ⟨q1, q2⟩ := o2.put1 hg (by simp; omega)
      exact ⟨_, _, _, q2, h7, rfl, fun _ => ⟨q1, by simp⟩, (fun h => by cases h)⟩
    | false =>
      have := append_bad (s := s2) hr
      rw [this] at h7 ⊢
      exact ⟨[], 1, s2, o2, h7, rfl, (fun h => by cases h), fun _ => ⟨rfl, rfl⟩⟩
  obtain ⟨he, hX1, hX0⟩ := hX
  rw [he]
  clear h7 he
  have hXl : X.length ≤ 3500 := by
    cases hr : xs.all rightA with
    | true =>
      have hg : GoodA xs := fun a h => ⟨List.all_eq_true.1 hr a h, hk a h⟩
      have hb := allB_len hg
      rw [(hX1 hr).2]; omega
    | false => rw [(hX0 hr).2]; simp
  (repeat (first | refine BND_step ha.len ?_ | refine stp ?_ | (apply BND_inc; omega) | (apply BND_dec; omega) | refine BND_step (rfl : some _ = some _) ?_ | (apply cyes; first | assumption | omega) | (apply cno; first | assumption | omega) | refine (COND_true _ _).2 ?_ | refine (COND_false _ _).2 ?_ | simp (disch := first | assumption | omega) only [gs1, gs2, decide_true, decide_false, eq_self, beq_self_eq_true, Bool.not_true, Bool.not_false]))
  refine loop_up 0 xs.length (fun i w' => ∃ s, At w [] (diskHP d s) w' ∧ Duo s 65536 X (allB (xs.take i)) ∧ ∀ a ∈ xs.take i, rightA a = true) ⟨s3, h7', by simpa [allB] using o3, by simp⟩ (by omega) ?_
  rintro i w8 - hi ⟨s4, h8, o4, hp⟩ J m hJ
  have dm4 := o4.small
  by_cases hlt : i < xs.length
  · have hx := List.getElem?_eq_getElem hlt
    have hm := List.getElem_mem hlt
    generalize xs[i] = a at hx hm
    obtain ⟨bp, op, ia, ln, _, _⟩ := (ha.fr h8.frame (by simp)).spot hx rfl .i64
    (repeat (first | refine BND_step ia ?_ | refine BND_step ln ?_ | refine stp ?_ | (apply BND_inc; omega) | (apply BND_dec; omega) | refine BND_step (rfl : some _ = some _) ?_ | (apply cyes; first | assumption | omega) | (apply cno; first | assumption | omega) | refine (COND_true _ _).2 ?_ | refine (COND_false _ _).2 ?_ | simp (disch := first | assumption | omega) only [gs1, gs2, decide_true, decide_false, eq_self, beq_self_eq_true, Bool.not_true, Bool.not_false]))
    refine box_step (n := 8) (zs := encAx zeroA) (vs := encAx a) rfl rfl (encAx_one _) (by simp [encAx]) fun w10 b10 f10 z10 => ?_
    (repeat (first | refine BND_step (loadn_all' b10 rfl) ?_ | refine stp ?_ | (apply BND_inc; omega) | (apply BND_dec; omega) | refine BND_step (rfl : some _ = some _) ?_ | (apply cyes; first | assumption | omega) | (apply cno; first | assumption | omega) | refine (COND_true _ _).2 ?_ | refine (COND_false _ _).2 ?_ | simp (disch := first | assumption | omega) only [gs1, gs2, decide_true, decide_false, eq_self, beq_self_eq_true, Bool.not_true, Bool.not_false]))
    refine op_Right a fun w11 f11 => ?_
    have h11 := (h8.fr0 f10).fr0 f11
    have b11 := f11.some (by simp) b10
    cases hr : rightA a with
    | false =>
      have hall : xs.all rightA = false := List.all_eq_false.2 ⟨a, hm, by rw [hr]; simp⟩
      obtain ⟨q1, q2⟩ := hX0 hall
      (repeat (first | refine stp ?_ | (apply BND_inc; omega) | (apply BND_dec; omega) | refine BND_step (rfl : some _ = some _) ?_ | (apply cyes; first | assumption | omega) | (apply cno; first | assumption | omega) | refine (COND_true _ _).2 ?_ | refine (COND_false _ _).2 ?_ | simp (disch := first | assumption | omega) only [gs1, gs2, decide_true, decide_false, eq_self, beq_self_eq_true, Bool.not_true, Bool.not_false]))
      refine ev_Load hTF h11 o4.inv (by omega) 1 (by omega) fun w12 v12 ev12 G12 E12 s12 se12 gG gE f12 => ?_
      rw [o4.load1, q2, load_none] at s12 ⊢
      subst q1
      have e12 : lenl v12 = some (.int .i64 0) := s12.len
      (repeat (first | refine BND_step e12 ?_ | refine stp ?_ | (apply BND_inc; omega) | (apply BND_dec; omega) | refine BND_step (rfl : some _ = some _) ?_ | (apply cyes; first | assumption | omega) | (apply cno; first | assumption | omega) | refine (COND_true _ _).2 ?_ | refine (COND_false _ _).2 ?_ | simp (disch := first | assumption | omega) only [gs1, gs2, decide_true, decide_false, eq_self, beq_self_eq_true, Bool.not_true, Bool.not_false]))
      exact hR _ (h11.fr0 f12).frame
    | true =>
      (repeat (first | refine BND_step (loadn_all' b11 rfl) ?_ | refine stp ?_ | (apply BND_inc; omega) | (apply BND_dec; omega) | refine BND_step (rfl : some _ = some _) ?_ | (apply cyes; first | assumption | omega) | (apply cno; first | assumption | omega) | refine (COND_true _ _).2 ?_ | refine (COND_false _ _).2 ?_ | simp (disch := first | assumption | omega) only [gs1, gs2, decide_true, decide_false, eq_self, beq_self_eq_true, Bool.not_true, Bool.not_false]))
      refine newone_step (x := a) encAx_len rfl fun t13 w13 s13 f13 z13 => ?_
      have hga : GoodA [a] := fun b hb => by simp at hb; subst hb; exact ⟨hr, hk _ hm⟩
      have hgp : GoodA (xs.take i) := fun b hb => ⟨hp b hb, hk b (List.mem_of_mem_take hb)⟩
      have hb1 := allB_len hga
      have hb2 := allB_len hgp
      have htl : (xs.take i).length = i := by rw [List.length_take]; omega
      obtain ⟨q1, q2⟩ := o4.put2 hga (by simp at hb1; omega)
      refine ev_Append hTF (h11.fr0 f13) o4.inv (by omega) (by omega) 2 (by omega) s13.arr (fun b hb => (hga b hb).2) (by simp) fun w14 h14 => ?_
      rw [q1]
      (repeat (first | refine stp ?_ | (apply BND_inc; omega) | (apply BND_dec; omega) | refine BND_step (rfl : some _ = some _) ?_ | (apply cyes; first | assumption | omega) | (apply cno; first | assumption | omega) | refine (COND_true _ _).2 ?_ | refine (COND_false _ _).2 ?_ | simp (disch := first | assumption | omega) only [gs1, gs2, decide_true, decide_false, eq_self, beq_self_eq_true, Bool.not_true, Bool.not_false]))
      refine hJ _ hlt ⟨_, h14, ?_, fun b hb => ?_⟩
      · rw [take_snoc hx]
        have : allB (xs.take i ++ [a]) = allB (xs.take i) ++ allB [a] := by simp [allB]
        rw [this]; exact q2
      · rw [take_snoc hx] at hb
        rcases List.mem_append.1 hb with hb | hb
        · exact hp b hb
        · simp at hb; subst hb; exact hr
  · obtain rfl : i = xs.length := by omega
    rw [List.take_length] at o4 hp
    have hall : xs.all rightA = true := List.all_eq_true.2 hp
    have hg : GoodA xs := fun a h => ⟨hp a h, hk a h⟩
    obtain ⟨q1, q2⟩ := hX1 hall
    subst q1 q2
    have hld := load_all hg
    (repeat (first | refine stp ?_ | (apply BND_inc; omega) | (apply BND_dec; omega) | refine BND_step (rfl : some _ = some _) ?_ | (apply cyes; first | assumption | omega) | (apply cno; first | assumption | omega) | refine (COND_true _ _).2 ?_ | refine (COND_false _ _).2 ?_ | simp (disch := first | assumption | omega) only [gs1, gs2, decide_true, decide_false, eq_self, beq_self_eq_true, Bool.not_true, Bool.not_false]))
    refine ev_Load hTF h8 o4.inv (by omega) 1 (by omega) fun w12 v12 ev12 G12 E12 s12 se12 gG gE f12 => ?_
    rw [o4.load1, hld] at s12 se12 ⊢
    have h12 := h8.fr0 f12
    (repeat (first | refine stp ?_ | (apply BND_inc; omega) | (apply BND_dec; omega) | refine BND_step (rfl : some _ = some _) ?_ | (apply cyes; first | assumption | omega) | (apply cno; first | assumption | omega) | refine (COND_true _ _).2 ?_ | refine (COND_false _ _).2 ?_ | simp (disch := first | assumption | omega) only [gs1, gs2, decide_true, decide_false, eq_self, beq_self_eq_true, Bool.not_true, Bool.not_false]))
    refine ev_Load hTF h12 o4.inv (by omega) 2 (by omega) fun w13 v13 ev13 G13 E13 s13 se13 gG13 gE13 f13 => ?_
    rw [o4.load2, hld] at s13 se13 ⊢
    have h13 := h12.fr0 f13
    (repeat (first | refine stp ?_ | (apply BND_inc; omega) | (apply BND_dec; omega) | refine BND_step (rfl : some _ = some _) ?_ | (apply cyes; first | assumption | omega) | (apply cno; first | assumption | omega) | refine (COND_true _ _).2 ?_ | refine (COND_false _ _).2 ?_ | simp (disch := first | assumption | omega) only [gs1, gs2, decide_true, decide_false, eq_self, beq_self_eq_true, Bool.not_true, Bool.not_false]))
    refine ev_own (s12.fr f13 (by simp)).arr (show xs.length * 72 ≤ 140737488351232 by omega) fun w14 v14 G14 s14 g14 f14 => ?_
    have h14 := h13.fr0 f14
    (repeat (first | refine stp ?_ | (apply BND_inc; omega) | (apply BND_dec; omega) | refine BND_step (rfl : some _ = some _) ?_ | (apply cyes; first | assumption | omega) | (apply cno; first | assumption | omega) | refine (COND_true _ _).2 ?_ | refine (COND_false _ _).2 ?_ | simp (disch := first | assumption | omega) only [gs1, gs2, decide_true, decide_false, eq_self, beq_self_eq_true, Bool.not_true, Bool.not_false]))
    refine ev_own (ha.fr h14.frame (by simp)) hbig fun w15 v15 G15 s15 g15 f15 => ?_
    (repeat (first | refine stp ?_ | (apply BND_inc; omega) | (apply BND_dec; omega) | refine BND_step (rfl : some _ = some _) ?_ | (apply cyes; first | assumption | omega) | (apply cno; first | assumption | omega) | refine (COND_true _ _).2 ?_ | refine (COND_false _ _).2 ?_ | simp (disch := first | assumption | omega) only [gs1, gs2, decide_true, decide_false, eq_self, beq_self_eq_true, Bool.not_true, Bool.not_false]))
    refine ev_same (s14.fr f15 (by simp)).arr s15.arr (show xs.length < 1000000000 by omega) fun w16 f16 => ?_
    rw [decide_eq_true rfl]
    have f1316 := (f14.trans' f15).trans' f16
    have h16 := h13.fr0 f1316
    (repeat (first | refine stp ?_ | (apply BND_inc; omega) | (apply BND_dec; omega) | refine BND_step (rfl : some _ = some _) ?_ | (apply cyes; first | assumption | omega) | (apply cno; first | assumption | omega) | refine (COND_true _ _).2 ?_ | refine (COND_false _ _).2 ?_ | simp (disch := first | assumption | omega) only [gs1, gs2, decide_true, decide_false, eq_self, beq_self_eq_true, Bool.not_true, Bool.not_false]))
    refine ev_own (s13.fr f1316 (by simp)).arr (show xs.length * 72 ≤ 140737488351232 by omega) fun w17 v17 G17 s17 g17 f17 => ?_
    have h17 := h16.fr0 f17
    (repeat (first | refine stp ?_ | (apply BND_inc; omega) | (apply BND_dec; omega) | refine BND_step (rfl : some _ = some _) ?_ | (apply cyes; first | assumption | omega) | (apply cno; first | assumption | omega) | refine (COND_true _ _).2 ?_ | refine (COND_false _ _).2 ?_ | simp (disch := first | assumption | omega) only [gs1, gs2, decide_true, decide_false, eq_self, beq_self_eq_true, Bool.not_true, Bool.not_false]))
    refine ev_own (ha.fr h17.frame (by simp)) hbig fun w18 v18 G18 s18 g18 f18 => ?_
    (repeat (first | refine stp ?_ | (apply BND_inc; omega) | (apply BND_dec; omega) | refine BND_step (rfl : some _ = some _) ?_ | (apply cyes; first | assumption | omega) | (apply cno; first | assumption | omega) | refine (COND_true _ _).2 ?_ | refine (COND_false _ _).2 ?_ | simp (disch := first | assumption | omega) only [gs1, gs2, decide_true, decide_false, eq_self, beq_self_eq_true, Bool.not_true, Bool.not_false]))
    refine ev_same (s17.fr f18 (by simp)).arr s18.arr (show xs.length < 1000000000 by omega) fun w19 f19 => ?_
    rw [decide_eq_true rfl]
    have f1319 := ((f1316.trans' f17).trans' f18).trans' f19
    (repeat (first | refine stp ?_ | (apply BND_inc; omega) | (apply BND_dec; omega) | refine BND_step (rfl : some _ = some _) ?_ | (apply cyes; first | assumption | omega) | (apply cno; first | assumption | omega) | refine (COND_true _ _).2 ?_ | refine (COND_false _ _).2 ?_ | simp (disch := first | assumption | omega) only [gs1, gs2, decide_true, decide_false, eq_self, beq_self_eq_true, Bool.not_true, Bool.not_false]))
    refine r5_Ints ((se12.fr f13 (by simp)).fr f1319 (by simp)).arr (se13.fr f1319 (by simp)).arr (by rw [endsF_len]; omega) fun w20 f20 => ?_
    rw [decide_eq_true rfl]
    have f1220 := (f13.trans' f1319).trans' f20
    have h20 := h12.fr0 f1220
    have se20 := se12.fr f1220 (by simp)
    (repeat (first | refine BND_step ha.len ?_ | refine stp ?_ | (apply BND_inc; omega) | (apply BND_dec; omega) | refine BND_step (rfl : some _ = some _) ?_ | (apply cyes; first | assumption | omega) | (apply cno; first | assumption | omega) | refine (COND_true _ _).2 ?_ | refine (COND_false _ _).2 ?_ | simp (disch := first | assumption | omega) only [gs1, gs2, decide_true, decide_false, eq_self, beq_self_eq_true, Bool.not_true, Bool.not_false]))
    refine loop_up2 (o := .int .i64 0) 0 xs.length (fun o k w' => o = .int .i64 ((allB (xs.take k)).length : Int) ∧ Fr [] w20 w') ⟨by simp [allB], Fr.refl _ _⟩ (by omega) ?_
    rintro _ k w21 - hk2 ⟨rfl, f21⟩ J2 m2 hJ2
    have h21 := h20.fr0 f21
    by_cases hlt2 : k < xs.length
    · have hx := List.getElem?_eq_getElem hlt2
      have hm := List.getElem_mem hlt2
      generalize xs[k] = a at hx hm
      obtain ⟨r1, r2⟩ := hg a hm
      obtain ⟨bp, op, ia, ln, _, _⟩ := (ha.fr h21.frame (by simp)).spot hx rfl .i64
      (repeat (first | refine BND_step ia ?_ | refine BND_step ln ?_ | refine stp ?_ | (apply BND_inc; omega) | (apply BND_dec; omega) | refine BND_step (rfl : some _ = some _) ?_ | (apply cyes; first | assumption | omega) | (apply cno; first | assumption | omega) | refine (COND_true _ _).2 ?_ | refine (COND_false _ _).2 ?_ | simp (disch := first | assumption | omega) only [gs1, gs2, decide_true, decide_false, eq_self, beq_self_eq_true, Bool.not_true, Bool.not_false]))
      refine box_step (n := 8) (zs := encAx zeroA) (vs := encAx a) rfl rfl (encAx_one _) (by simp [encAx]) fun w23 b23 f23 z23 => ?_
      (repeat (first | refine BND_step (loadn_all' b23 rfl) ?_ | refine stp ?_ | (apply BND_inc; omega) | (apply BND_dec; omega) | refine BND_step (rfl : some _ = some _) ?_ | (apply cyes; first | assumption | omega) | (apply cno; first | assumption | omega) | refine (COND_true _ _).2 ?_ | refine (COND_false _ _).2 ?_ | simp (disch := first | assumption | omega) only [gs1, gs2, decide_true, decide_false, eq_self, beq_self_eq_true, Bool.not_true, Bool.not_false]))
      refine op_Record a (fun hno => by rw [r1] at hno; cases hno) fun _ w24 sv H sl gH f24 => ?_
      (repeat (first | refine stp ?_ | (apply BND_inc; omega) | (apply BND_dec; omega) | refine BND_step (rfl : some _ = some _) ?_ | (apply cyes; first | assumption | omega) | (apply cno; first | assumption | omega) | refine (COND_true _ _).2 ?_ | refine (COND_false _ _).2 ?_ | simp (disch := first | assumption | omega) only [gs1, gs2, decide_true, decide_false, eq_self, beq_self_eq_true, Bool.not_true, Bool.not_false]))
      refine box_step (n := 3) (zs := encRc (0, nilV, noB)) (vs := encRc (a.d, sv, a.name)) rfl rfl (encRc_one _) (by simp [encRc]) fun w26 b26 f26 z26 => ?_
      obtain ⟨t1, t2, _⟩ := right_rec r1 r2
      have ets : a.name.size = a.name.data.toList.length := by show a.name.data.size = _; simp
      (repeat (first | refine BND_step (loadn_all' b26 rfl) ?_ | refine stp ?_ | (apply BND_inc; omega) | (apply BND_dec; omega) | refine BND_step (rfl : some _ = some _) ?_ | (apply cyes; first | assumption | omega) | (apply cno; first | assumption | omega) | refine (COND_true _ _).2 ?_ | refine (COND_false _ _).2 ?_ | simp (disch := first | assumption | omega) only [gs1, gs2, decide_true, decide_false, eq_self, beq_self_eq_true, Bool.not_true, Bool.not_false]))
      refine rec_Bytes a.d a.name (sl.fr f26 (by simp)).arr t2 (fun w27 hno _ => by rw [ets, t1] at hno; cases hno) fun w27 v27 G27 _ s27 g27 f27 => ?_
      have el : lenl v27 = some (.int .i64 ((bytesA a).length : Int)) := s27.len
      have hb1 := (bytesA_len r1 r2).2
      have hb2 := allB_len (l := xs.take k) fun b hb => hg b (List.mem_of_mem_take hb)
      have htl : (xs.take k).length = k := by rw [List.length_take]; omega
      have f2027 := (((f21.trans' f23).trans' f24).trans' f26).trans' f27
      obtain ⟨b3, o3, i3, _, _, l3⟩ := (se20.fr f2027 (by simp)).arr.spot (i := k) (endsF_at 0 xs k hlt2) rfl .i64
      have etk : allB (xs.take (k + 1)) = allB (xs.take k) ++ bytesA a := by rw [take_snoc hx]; simp [allB]
      have ea : binv .int .add (.int .i64 ((allB (xs.take k)).length : Int)) (.int .i64 ((bytesA a).length : Int)) = some (.int .i64 ((allB (xs.take (k + 1))).length : Int)) := by
        rw [addn_ (by omega), etk, List.length_append]
      rw [Nat.zero_add] at l3
      (repeat (first | refine BND_step el ?_ | refine BND_step ea ?_ | refine BND_step i3 ?_ | (apply BND_step; exact (l3 (w' := w27) rfl (j := 0) rfl)) | refine stp ?_ | (apply BND_inc; omega) | (apply BND_dec; omega) | refine BND_step (rfl : some _ = some _) ?_ | (apply cyes; first | assumption | omega) | (apply cno; first | assumption | omega) | refine (COND_true _ _).2 ?_ | refine (COND_false _ _).2 ?_ | simp (disch := first | assumption | omega) only [gs1, gs2, decide_true, decide_false, eq_self, beq_self_eq_true, Bool.not_true, Bool.not_false]))
      exact hJ2 _ _ hlt2 ⟨rfl, f2027⟩
    · (repeat (first | refine stp ?_ | (apply BND_inc; omega) | (apply BND_dec; omega) | refine BND_step (rfl : some _ = some _) ?_ | (apply cyes; first | assumption | omega) | (apply cno; first | assumption | omega) | refine (COND_true _ _).2 ?_ | refine (COND_false _ _).2 ?_ | simp (disch := first | assumption | omega) only [gs1, gs2, decide_true, decide_false, eq_self, beq_self_eq_true, Bool.not_true, Bool.not_false]))
      exact hR _ h21.frame
end
end Go.Proofs.YtmefbneoljpbgaaDoor
