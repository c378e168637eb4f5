
/- Events walked: acts turned to records, and back; what is appended, and loaded. Conditions: the table of the powers of ten is laid; numbers are of 64 bits; sizes. -/
import Derived.Test.YtmefbneoljpbgaaGreatDoorEvD
import Derived.Test.YtmefbneoljpbgaaGreatDoorOpOf
import Derived.Test.YtmefbneoljpbgaaGreatDoorName
import Derived.Test.YtmefbneoljpbgaaGreatDoorGe
import Derived.Test.YtmefbneoljpbgaaGreatDoorMa
namespace Go.Proofs.YtmefbneoljpbgaaGreatDoor
open Go.Den Go.Disk Go.Vint Go.Crc Go.Frame Go.Rec Go.Ev Go.Nm
theorem okRecord : okCallee PR F_op_Record = true := by kernel_rfl
theorem okOf : okCallee PR F_op_Of = true := by kernel_rfl
abbrev TabF (w0 : World) (F0 : List Nat) : Prop := ∀ w', Fr F0 w0 w' → Tab w'
theorem frAll_len : ∀ (n : Nat) (b : List UInt8) (k : Nat), b.length = n → (frAll b k).1.length ≤ b.length := by
  intro n
  induction n using Nat.strongRecOn with
  | _ n ih =>
    intro b k hb
    by_cases h0 : b = []
    · subst h0; rw [frAll_nil]; simp
    · by_cases h1 : (frRead b).2.2 = 0
      · obtain ⟨q1, q2, _⟩ := read_ok h1
        rw [frAll_ok k h0 h1]
        have := ih (b.drop (frRead b).2.1).length (by rw [List.length_drop]; omega) _ (k + (frRead b).2.1) rfl
        rw [List.length_drop] at this
        simp only [List.length_cons]; omega
      · rw [frAll_bad k h0 h1]; simp
theorem recAllF_len : ∀ (fs : List Fra) (k : Nat) (e : Int), (recAllF fs k e).1.length ≤ fs.length
  | [], _, _ => by simp [recAllF]
  | x :: r, k, e => by
    rw [recAllF_cons]
    split
    · have := recAllF_len r (k + (11 + x.2.length)) e
      simp only [List.length_cons]; omega
    · simp
theorem recAll_len (b : List UInt8) : (recAll b).1.length ≤ b.length := Nat.le_trans (recAllF_len _ _ _) (frAll_len _ b 0 rfl)
theorem recAllF_right : ∀ (fs : List Fra) (k : Nat) (e : Int), ∀ x ∈ (recAllF fs k e).1, rightB x.kind x.n.length x.text.length = true
  | [], _, _, x, h => by simp [recAllF] at h
  | f :: r, k, e, x, h => by
    rw [recAllF_cons] at h
    split at h
    · rename_i h0
      rcases List.mem_cons.1 h with rfl | h
      · exact (recRead_good h0).1
      · exact recAllF_right r _ e x h
    · simp at h
theorem turnL_bad {α β : Type} {f : α → β × Int} : ∀ {l : List α} {i : Nat} {x : α}, l[i]? = some x → (∀ a ∈ l.take i, (f a).2 = 0) → (f x).2 ≠ 0 → turnL f l = ([], (f x).2)
  | a :: l, 0, x, hx, _, h => by
    simp at hx; subst hx
    simp [turnL, h]
  | a :: l, i + 1, x, hx, hp, h => by
    have h0 := hp a (by simp)
    have := turnL_bad (f := f) (l := l) (i := i) (by simpa using hx) (fun b hb => hp b (by simp [hb])) h
    simp [turnL, h0, this, h]
theorem turnL_good {α β : Type} {f : α → β × Int} : ∀ {l : List α}, (∀ a ∈ l, (f a).2 = 0) → turnL f l = (l.map fun a => (f a).1, 0)
  | [], _ => rfl
  | a :: l, hp => by
    have := turnL_good (f := f) (l := l) fun b hb => hp b (by simp [hb])
    simp [turnL, hp a (by simp), this]
theorem take_snoc {α : Type} {l : List α} {i : Nat} {x : α} (h : l[i]? = some x) : l.take (i + 1) = l.take i ++ [x] := by
  rw [List.take_add_one, h]; rfl
theorem read_small {s : Dk} (h : Inv s) (n : ByteArray) : (Disk.read s n).1.length ≤ 1048576 := by
  unfold Disk.read
  split
  · simp
  · split
    · simp
    · rename_i f hf
      have h1 := h.wf.small _ (List.mem_of_getElem? (wf_pick h.wf hf))
      have h2 := h.wf.room.2
      simp only; omega
theorem create_more (s : Dk) (n : ByteArray) : (create s n).1.dirs.length ≤ s.dirs.length + 1 ∧ (create s n).1.files.length ≤ s.files.length + 1 := by
  obtain ⟨h1, h2, _⟩ := can_keep s (createE s n)
  unfold create
  simp only
  split
  · simp
  · rw [h1, h2]; omega
theorem okG_k {g : Nat} : okG g = okN 101 g := rfl
theorem nameOf_yes {g : Nat} (h : okG g = true) : nameOf 101 g = (evN g, 0) := by unfold nameOf; rw [okG_k] at h; rw [if_pos h]; rfl
theorem nameOf_no {g : Nat} (h : okG g = false) : nameOf 101 g = (ByteArray.empty, 1) := by unfold nameOf; rw [okG_k] at h; rw [if_neg (by rw [h]; simp)]
set_option linter.unusedSimpArgs false
set_option linter.unusedVariables false
set_option maxRecDepth 20000
set_option maxHeartbeats 4000000
attribute [local congr] BND_cg COND_cg GEF_cg
attribute [local irreducible] capl slicea load1 loadn iaddr iaddra faddr storev newslice binv lookv mupd mdel mlenv mentry mestore slicev slicev3 slices indexs indexav textv rangev nexts clearv shiftv eqaggv convi buildv pickv lens lenl unv nilchk extractv partn JOIN
section
variable {w : World} {R : Value → World → Prop}
theorem ev_turnedR {lv : Value} {xs : List Ax} (ha : Arr encAx 8 w lv xs) (hn : xs.length < 1000000) (hR0 : xs.all rightA = false → ∀ w', Fr [] w w' → R (.tuple #[.slice none 0 0, .int .i64 1]) w')
    (hR : xs.all rightA = true → ∀ w' v G B, RecL w' v (xs.map recA) G B → (∀ b ∈ G, hsz w ≤ b) → (∀ b ∈ B, hsz w ≤ b) → Fr [] w w' → R (.tuple #[v, .int .i64 0]) w') :
    CALL PR F_events_turned_Record [lv, .func (.func F_op_Record) #[] #[]] w R := by
  refine C_events_turned_Record ?_
  unfold M_events_turned_Record
  (repeat (first | refine BND_step ha.len ?_ | refine gg ?_))
  refine loop_up2 (o := .slice none 0 0) 0 xs.length (fun o i w' => ∃ G B, RecL w' o ((xs.take i).map recA) G B ∧ (∀ b ∈ G, hsz w ≤ b) ∧ (∀ b ∈ B, hsz w ≤ b) ∧ (∀ a ∈ xs.take i, rightA a = true) ∧ Fr [] w w') ⟨[], [], RecL.nil _, by simp, by simp, by simp, Fr.refl _ _⟩ (by omega) ?_
  rintro o i w1 - hi ⟨G, B, h1, gG, gB, hall, f1⟩ J m hJ
  by_cases hlt : i < xs.length
  · have hx := List.getElem?_eq_getElem hlt
    generalize xs[i] = a at hx
    obtain ⟨bp, op, ia, ln, _, _⟩ := (ha.fr f1 (by simp)).spot hx rfl .i64
    (repeat refine gg ?_)
    refine box_step (n := 8) (zs := encAx zeroA) (vs := encAx a) rfl rfl (encAx_one _) (by simp [encAx]) fun w3 b3 f3 z3 => ?_
    have f13 := f1.trans' f3
    (repeat (first | refine BND_step (loadn_all' b3 rfl) ?_ | refine gg ?_))
    refine (CALLV_func okRecord).2 ?_
    refine op_Record a (fun hr w4 f4 => ?_) fun hr w4 s H sl gH f4 => ?_
    · (repeat refine gg ?_)
      refine box_step (n := 3) (zs := encRc (0, nilV, noB)) (vs := encRc (0, nilV, noB)) rfl rfl (encRc_one _) (by simp [encRc]) fun w5 b5 f5 z5 => ?_
      (repeat refine gg ?_)
      refine hR0 ?_ _ ((f13.trans' f4).trans' f5)
      rw [List.all_eq_false]
      exact ⟨a, List.mem_of_getElem? hx, by rw [hr]; simp⟩
    · (repeat refine gg ?_)
      refine box_step (n := 3) (zs := encRc (0, nilV, noB)) (vs := encRc (a.d, s, a.name)) rfl rfl (encRc_one _) (by simp [encRc]) fun w5 b5 f5 z5 => ?_
      obtain ⟨⟨d1, d2⟩, _⟩ := rightA_iff.1 hr
      have ed : ((a.d.toNat : Nat) : Int) = a.d := by omega
      have ec : encRc (a.d, s, a.name) = encRc (((recA a).kind : Int), s, txB (recA a).text) := by
        show _ = encRc (((a.d.toNat : Nat) : Int), s, txB a.name.data.toList)
        rw [ed, txB_data]
      have f14 := f13.trans' f4
      have f15 := f14.trans' f5
      have g1 := f1.grow
      have g13 := f3.grow
      have g34 := f4.grow
      have g15 := f15.grow
      rw [ec] at b5
      (repeat (first | refine BND_step (loadn_all' b5 rfl) ?_ | refine gg ?_))
      have h5 := h1.fr ((f3.trans' f4).trans' f5)
      refine rec_push (x := recA a) h5 (sl.fr f5 (by simp)) (fun b hb hb' => by have := gH b hb; have := h1.lt b hb'; omega) rfl (by omega) (by simp; omega) fun v6 w6 G6 h6 g6 f6 => ?_
      (repeat refine gg ?_)
      refine hJ _ _ hlt ⟨G6, H ++ B, ?_, fun b hb => ?_, fun b hb => ?_, fun b hb => ?_, f15.trans f6 fun b hb => .inr (gG b hb)⟩
      · rw [take_snoc hx, List.map_append]; exact h6
      · rcases g6 b hb with hq | hq
        · exact gG b hq
        · omega
      · rcases List.mem_append.1 hb with hb | hb
        · have := gH b hb; omega
        · exact gB b hb
      · rw [take_snoc hx] at hb
        rcases List.mem_append.1 hb with hb | hb
        · exact hall b hb
        · simp at hb; subst hb; exact hr
  · obtain rfl : i = xs.length := by omega
    rw [List.take_length] at h1 hall
    (repeat refine gg ?_)
    exact hR (List.all_eq_true.2 hall) _ _ _ _ h1 gG gB f1
theorem ev_turnedO {lv : Value} {xs : List Rc} {G B : List Nat} (h : RecL w lv xs G B) (hn : xs.length < 100000000) (hg : ∀ x ∈ xs, rightB x.kind x.n.length x.text.length = true)
    (hR : ∀ w' v H, Slc encAx 8 w' v (turnL ofA xs).1 H → (∀ b ∈ H, hsz w ≤ b) → Fr [] w w' → R (.tuple #[v, .int .i64 (turnL ofA xs).2]) w') :
    CALL PR F_events_turned_Op [lv, .func (.func F_op_Of) #[] #[]] w R := by
  refine C_events_turned_Op ?_
  unfold M_events_turned_Op
  (repeat (first | refine BND_step h.len ?_ | refine gg ?_))
  refine loop_up2 (o := .slice none 0 0) 0 xs.length (fun o i w' => ∃ H, Slc encAx 8 w' o ((xs.take i).map fun a => (ofA a).1) H ∧ (∀ b ∈ H, hsz w ≤ b) ∧ (∀ a ∈ xs.take i, (ofA a).2 = 0) ∧ Fr [] w w') ⟨[], Slc.nil _ _ _, by simp, by simp, Fr.refl _ _⟩ (by omega) ?_
  rintro o i w1 - hi ⟨H, h1, gH, hall, f1⟩ J m hJ
  by_cases hlt : i < xs.length
  · have hx := List.getElem?_eq_getElem hlt
    generalize xs[i] = a at hx
    obtain ⟨⟨cs, c1, c2, c3⟩, c4⟩ := h.fr f1
    obtain ⟨s, U, e1, e2, e3⟩ := c3 i a hx
    obtain ⟨bp, op, ia, ln, _, _⟩ := c1.arr.spot e1 rfl .i64
    (repeat refine gg ?_)
    refine box_step (n := 3) (zs := encRc (0, nilV, noB)) (vs := encRc ((a.kind : Int), s, txB a.text)) rfl rfl (encRc_one _) (by simp [encRc]) fun w3 b3 f3 z3 => ?_
    have f13 := f1.trans' f3
    (repeat (first | refine BND_step (loadn_all' b3 rfl) ?_ | refine gg ?_))
    refine (CALLV_func okOf).2 ?_
    refine op_Of (a.kind : Int) (txB a.text) ((e2.fr f3 (by simp)).arrC) fun w4 f4 => ?_
    have ets : (txB a.text).size = a.text.length := by show a.text.toArray.size = _; simp
    have eo : ofR (a.kind : Int) a.n (txB a.text) = ofA a := by
      unfold ofR
      rw [ets, if_pos (hg a (List.mem_of_getElem? hx))]
      simp [txB]
    rw [eo]
    (repeat refine gg ?_)
    refine box_step (n := 8) (zs := encAx zeroA) (vs := encAx (ofA a).1) rfl rfl (encAx_one _) (by simp [encAx]) fun w5 b5 f5 z5 => ?_
    have f35 := (f3.trans' f4).trans' f5
    have f15 := f1.trans' f35
    by_cases he : (ofA a).2 = 0
    · (repeat (first | refine BND_step (loadn_all' b5 rfl) ?_ | refine gg ?_))
      refine push_step (enc := encAx) (x := (ofA a).1) (h1.fr f35 (by simp)) encAx_len encAx_one rfl rfl (by omega) (by simp; omega) fun v6 w6 G6 h6 g6 f6 => ?_
      (repeat refine gg ?_)
      have g15 := f15.grow
      refine hJ _ _ hlt ⟨G6, ?_, fun b hb => ?_, fun b hb => ?_, f15.trans f6 fun b hb => .inr (gH b hb)⟩
      · rw [take_snoc hx, List.map_append]; exact h6
      · rcases g6 b hb with hq | hq
        · exact gH b hq
        · omega
      · rw [take_snoc hx] at hb
        rcases List.mem_append.1 hb with hb | hb
        · exact hall b hb
        · simp at hb; subst hb; exact he
    · (repeat refine gg ?_)
      rw [turnL_bad hx hall he] at hR
      exact hR _ _ [] (Slc.nil _ _ _) (by simp) f15
  · obtain rfl : i = xs.length := by omega
    rw [List.take_length] at h1 hall
    (repeat refine gg ?_)
    rw [turnL_good hall] at hR
    exact hR _ _ _ h1 gH f1
end
section
variable {w0 w : World} {F0 : List Nat} {d : Nat} {s : Dk} {R : Value → World → Prop}
theorem ev_Begin (hT : TabF w0 F0) (h : At w0 F0 (diskHP d s) w) (hi : Inv s) (hn : s.dirs.length < 100000000) (g : Nat) (hg : g < 18446744073709551616) (hR : ∀ w', At w0 F0 (diskHP d (evBegin s g).1) w' → R (.int .i64 (evBegin s g).2) w') :
    CALL PR F_events_Begin [ptrTo d, .int .u64 (g : Int)] w R := by
  refine C_events_Begin ?_
  unfold M_events_Begin
  refine name_Of (hT _ h.frame) 101 g hg fun w1 f1 => ?_
  have h1 := h.fr0 f1
  unfold evBegin at hR
  cases hk : okG g with
  | false =>
    rw [nameOf_no hk]
    rw [hk] at hR
    (repeat refine gg ?_)
    exact hR _ h1
  | true =>
    rw [nameOf_yes hk]
    rw [hk] at hR
    (repeat refine gg ?_)
    refine dk_Create h1 hi.wf (by omega) (evN g) fun w2 h2 => ?_
    by_cases he : (create s (evN g)).2 = 0
    · (repeat refine gg ?_)
      have hm := create_more s (evN g)
      refine dk_Sync h2 (inv_create hi _).wf (by omega) (evN g) fun w3 h3 => ?_
      simp only [if_true, if_pos he] at hR
      exact hR _ h3
    · (repeat refine gg ?_)
      simp only [if_true, if_neg he] at hR
      exact hR _ h2
theorem ev_Sync (hT : TabF w0 F0) (h : At w0 F0 (diskHP d s) w) (hi : Inv s) (hn : s.dirs.length < 100000000) (g : Nat) (hg : g < 18446744073709551616) (hR : ∀ w', At w0 F0 (diskHP d (evSync s g).1) w' → R (.int .i64 (evSync s g).2) w') :
    CALL PR F_events_Sync [ptrTo d, .int .u64 (g : Int)] w R := by
  refine C_events_Sync ?_
  unfold M_events_Sync
  refine name_Of (hT _ h.frame) 101 g hg fun w1 f1 => ?_
  have h1 := h.fr0 f1
  unfold evSync at hR
  cases hk : okG g with
  | false =>
    rw [nameOf_no hk]
    rw [hk] at hR
    (repeat refine gg ?_)
    exact hR _ h1
  | true =>
    rw [nameOf_yes hk]
    rw [hk] at hR
    (repeat refine gg ?_)
    refine dk_Sync h1 hi.wf (by omega) (evN g) fun w3 h3 => ?_
    exact hR _ h3
theorem ev_Cut (hT : TabF w0 F0) (h : At w0 F0 (diskHP d s) w) (hi : Inv s) (hn : s.dirs.length < 100000000) (g : Nat) (hg : g < 18446744073709551616) (k : Int) (hR : ∀ w', At w0 F0 (diskHP d (evCut s g k).1) w' → R (.int .i64 (evCut s g k).2) w') :
    CALL PR F_events_Cut [ptrTo d, .int .u64 (g : Int), .int .i64 k] w R := by
  refine C_events_Cut ?_
  unfold M_events_Cut
  refine name_Of (hT _ h.frame) 101 g hg fun w1 f1 => ?_
  have h1 := h.fr0 f1
  unfold evCut at hR
  cases hk : okG g with
  | false =>
    rw [nameOf_no hk]
    rw [hk] at hR
    (repeat refine gg ?_)
    exact hR _ h1
  | true =>
    rw [nameOf_yes hk]
    rw [hk] at hR
    simp only [if_true] at hR
    (repeat refine gg ?_)
    refine dk_Read h1 hi.wf (by omega) (evN g) fun w2 v G h2 s2 g2 f2 => ?_
    by_cases he : (Disk.read s (evN g)).2 = 0
    · rw [if_pos he] at hR
      by_cases hl : ((Disk.read s (evN g)).1.length : Int) ≤ k
      · rw [if_pos hl] at hR
        (repeat (first | refine BND_step s2.len ?_ | refine gg ?_))
        exact hR _ h2
      · rw [if_neg hl] at hR
        (repeat (first | refine BND_step s2.len ?_ | refine gg ?_))
        refine dk_Cut h2 hi.wf (by omega) (evN g) k fun w3 h3 => ?_
        exact hR _ h3
    · rw [if_neg he] at hR
      (repeat refine gg ?_)
      exact hR _ h2
theorem ev_Append (hT : TabF w0 F0) (h : At w0 F0 (diskHP d s) w) (hi : Inv s) (hn : s.dirs.length < 100000000) (hn2 : s.files.length < 100000000) (g : Nat) (hg : g < 18446744073709551616) {lv : Value} {xs : List Ax} (ha : Arr encAx 8 w lv xs) (hk : ∀ a ∈ xs, OkA a) (hl : xs.length < 100000)
    (hR : ∀ w', At w0 F0 (diskHP d (evAppend s g xs).1) w' → R (.int .i64 (evAppend s g xs).2) w') : CALL PR F_events_Append [ptrTo d, .int .u64 (g : Int), lv] w R := by
  refine C_events_Append ?_
  unfold M_events_Append
  refine name_Of (hT _ h.frame) 101 g hg fun w1 f1 => ?_
  have h1 := h.fr0 f1
  unfold evAppend at hR
  cases hk0 : okG g with
  | false =>
    rw [nameOf_no hk0]
    rw [hk0] at hR
    (repeat refine gg ?_)
    exact hR _ h1
  | true =>
    rw [nameOf_yes hk0]
    rw [hk0] at hR
    simp only [if_true] at hR
    (repeat refine gg ?_)
    refine ev_turnedR (ha.fr f1 (by simp)) (by omega) (fun hall w2 f2 => ?_) fun hall w2 v G B r2 gG gB f2 => ?_
    · rw [hall] at hR
      (repeat refine gg ?_)
      exact hR _ (h1.fr0 f2)
    · rw [hall] at hR
      have hgood : GoodA xs := fun a ha' => ⟨List.all_eq_true.1 hall a ha', hk a ha'⟩
      have el := r2.len
      rw [List.length_map] at el
      (repeat refine gg ?_)
      refine loop_up2 (o := .slice none 0 0) 0 xs.length (fun o i w' => ∃ H, Slc encB 1 w' o (allB (xs.take i)) H ∧ (∀ b ∈ H, hsz w2 ≤ b) ∧ Fr [] w2 w') ⟨[], Slc.nil _ _ _, by simp, Fr.refl _ _⟩ (by omega) ?_
      rintro o i w3 - hi3 ⟨H, s3, gH, f3⟩ J m hJ
      by_cases hlt : i < xs.length
      · have hx := List.getElem?_eq_getElem hlt
        have hm := List.getElem_mem hlt
        generalize xs[i] = a at hx hm
        obtain ⟨⟨cs, c1, c2, c3⟩, c4⟩ := r2.fr f3
        obtain ⟨sv, U, e1, e2, e3⟩ := c3 i (recA a) (by rw [List.getElem?_map, hx]; rfl)
        obtain ⟨bp, op, ia, ln, _, _⟩ := c1.arr.spot e1 rfl .i64
        (repeat refine gg ?_)
        refine box_step (n := 3) (zs := encRc (0, nilV, noB)) (vs := encRc (((recA a).kind : Int), sv, txB (recA a).text)) rfl rfl (encRc_one _) (by simp [encRc]) fun w5 b5 f5 z5 => ?_
        obtain ⟨q1, q2⟩ := hgood a hm
        obtain ⟨r1, r2', _⟩ := right_rec q1 q2
        obtain ⟨⟨d1, d2⟩, _⟩ := rightA_iff.1 q1
        have ed : ((a.d.toNat : Nat) : Int) = a.d := by omega
        have ets : (txB (recA a).text).size = a.name.data.toList.length := by show a.name.data.toList.toArray.size = _; simp
        (repeat (first | refine BND_step (loadn_all' b5 rfl) ?_ | refine gg ?_))
        refine rec_Bytes ((recA a).kind : Int) (txB (recA a).text) (e2.fr f5 (by simp)).arr r2' (fun w6 hno f6 => ?_) fun w6 v6 G6 _ s6 g6 f6 => ?_
        · exfalso
          rw [ets] at hno
          have : ((recA a).kind : Int) = a.d := ed
          rw [this] at hno
          rw [show (recA a).n = numsA a from rfl, r1] at hno
          cases hno
        · have f56 := f5.trans' f6
          have eb : recB ((recA a).kind : Int).toNat (recA a).n (txB (recA a).text).data.toList = bytesA a := by
            show recB (((a.d.toNat : Nat) : Int)).toNat (numsA a) (txB a.name.data.toList).data.toList = _
            rw [txB_data, Int.toNat_natCast]; rfl
          rw [eb] at s6
          have hba := (bytesA_len q1 q2).2
          have hbt := allB_len (l := xs.take i) fun b hb => hgood b (List.mem_of_mem_take hb)
          have htl : (xs.take i).length = i := by rw [List.length_take]; omega
          have gr3 := f3.grow
          have gr56 := f56.grow
          (repeat refine gg ?_)
          refine APPEND_slc (s3.fr f56 (by simp)) (s6.loads encB_len) encB_len encB_one rfl (by omega) (by omega) fun v7 w7 G7 s7 f7 g7 => ?_
          (repeat refine gg ?_)
          refine hJ _ _ hlt ⟨G7, ?_, fun b hb => ?_, (f3.trans' f56).trans f7 fun b hb => .inr (gH b hb)⟩
          · rw [take_snoc hx]
            have : allB (xs.take i ++ [a]) = allB (xs.take i) ++ bytesA a := by simp [allB]
            rw [this]; exact s7
          · rcases g7 b hb with hq | hq
            · exact gH b hq
            · omega
      · obtain rfl : i = xs.length := by omega
        rw [List.take_length] at s3
        (repeat refine gg ?_)
        have hbt := allB_len hgood
        have gr2 := f2.grow
        refine app_step h1 (f2.trans' f3) hi.wf (by omega) (by omega) (evN g) s3 (fun b hb => by have := gH b hb; omega) (by omega) fun w4 h4 => ?_
        exact hR _ h4
theorem ev_Load (hT : TabF w0 F0) (h : At w0 F0 (diskHP d s) w) (hi : Inv s) (hn : s.dirs.length < 100000000) (g : Nat) (hg : g < 18446744073709551616)
    (hR : ∀ w' v ev G E, Slc encAx 8 w' v (evLoad s g).1 G → Slc encO 1 w' ev (evLoad s g).2.1 E → (∀ b ∈ G, hsz w ≤ b) → (∀ b ∈ E, hsz w ≤ b) → Fr [] w w' → R (.tuple #[v, ev, .int .i64 (evLoad s g).2.2]) w') : CALL PR F_events_Load [ptrTo d, .int .u64 (g : Int)] w R := by
  refine C_events_Load ?_
  unfold M_events_Load
  refine name_Of (hT _ h.frame) 101 g hg fun w1 f1 => ?_
  have h1 := h.fr0 f1
  unfold evLoad at hR
  cases hk : okG g with
  | false =>
    rw [nameOf_no hk]
    rw [hk] at hR
    (repeat refine gg ?_)
    exact hR _ _ _ [] [] (Slc.nil _ _ _) (Slc.nil _ _ _) (by simp) (by simp) f1
  | true =>
    rw [nameOf_yes hk]
    rw [hk] at hR
    simp only [if_true] at hR
    (repeat refine gg ?_)
    have hrs := read_small hi (evN g)
    refine dk_Read h1 hi.wf (by omega) (evN g) fun w2 v G _ s2 g2 f2 => ?_
    have f02 := f1.trans' f2
    by_cases he : (Disk.read s (evN g)).2 = 0
    · rw [if_pos he] at hR
      (repeat refine gg ?_)
      refine rec_All s2.arrC (by omega) fun w3 v3 e3 G3 B3 E3 r3 s3 gG gB gE f3 => ?_
      have hl := recAll_len (Disk.read s (evN g)).1
      have hrt := recAllF_right (frAll (Disk.read s (evN g)).1 0).1 0 (frAll (Disk.read s (evN g)).1 0).2.2
      have f03 := f02.trans' f3
      have g02 := f02.grow
      have g03 := f03.grow
      (repeat refine gg ?_)
      refine ev_turnedO r3 (by omega) hrt fun w4 v4 H4 s4 gH f4 => ?_
      have f04 := f03.trans' f4
      unfold loadB at hR
      by_cases ht : (turnL ofA (recAll (Disk.read s (evN g)).1).1).2 = 0
      · rw [if_neg (by simpa using ht)] at hR
        by_cases h0 : (recAll (Disk.read s (evN g)).1).2.2 = 0
        · rw [if_neg (by simp [h0])] at hR
          (repeat refine gg ?_)
          exact hR _ _ _ _ _ s4 (s3.fr f4 (by simp)) (fun b hb => by have := gH b hb; omega) (fun b hb => by have := gE b hb; omega) f04
        · by_cases h3 : (recAll (Disk.read s (evN g)).1).2.2 = 3
          · rw [if_neg (by simp [h3])] at hR
            (repeat refine gg ?_)
            exact hR _ _ _ _ _ s4 (s3.fr f4 (by simp)) (fun b hb => by have := gH b hb; omega) (fun b hb => by have := gE b hb; omega) f04
          · rw [if_pos ⟨h0, h3⟩] at hR
            (repeat refine gg ?_)
            exact hR _ _ _ [] [] (Slc.nil _ _ _) (Slc.nil _ _ _) (by simp) (by simp) f04
      · rw [if_pos ht] at hR
        (repeat refine gg ?_)
        exact hR _ _ _ [] [] (Slc.nil _ _ _) (Slc.nil _ _ _) (by simp) (by simp) f04
    · rw [if_neg he] at hR
      (repeat refine gg ?_)
      exact hR _ _ _ [] [] (Slc.nil _ _ _) (Slc.nil _ _ _) (by simp) (by simp) f02
end
end Go.Proofs.YtmefbneoljpbgaaGreatDoor
