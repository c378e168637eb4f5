/- The laws of logs, in plain words: the order of places; what is cut; what is sure. No condition. What the laws of logs use: records compared; many records put into a log; each read at its place. Conditions: the table of the powers of ten is laid; numbers are of 64 bits; sizes. How records that came in read. No condition. Records put into a new log, and calls whose answers the document fixes, walked. Conditions: as of a log's. One thing worked upon while the others stay. No condition. A log that is opened at a place of a record: the law walked. Conditions: as of a log's. The law of a log opened at a place, for numbers as they came in. Conditions: as that law's. -/
import Derived.Test.YtofllgbdphakiaaDoorGi
import Derived.Test.YtofllgbdphakiaaDoorMa
import Derived.Test.YtofllgbdphakiaaDoorGh
set_option linter.unusedVariables false
set_option linter.unusedSimpArgs false
section
set_option linter.unusedSimpArgs false
set_option linter.unusedVariables false
namespace Go.Sg
open Go.Den Go.Disk Go.Nm Go.Rec Go.Frame Go.Ev Go.Proofs.YtofllgbdphakiaaDoor
/-! ## The order of places -/
def bump (p : Nat × Nat) (x : Pc) : Nat × Nat := if x.seg = p.1 + 1 ∧ x.at_ = 0 then (x.seg, 0) else p
def stepC (p : Nat × Nat) (x : Pc) : Nat × Nat := ((bump p x).1, (bump p x).2 + 1)
def runC (s0 : Nat) (ps : List Pc) : Nat × Nat := ps.foldl stepC (s0, 0)
theorem runC_snoc (s0 : Nat) (ps : List Pc) (x : Pc) : runC s0 (ps ++ [x]) = stepC (runC s0 ps) x := by unfold runC; rw [List.foldl_append]; rfl
def fineC (size : Int) (p : Nat × Nat) (x : Pc) : Prop := x.seg = (bump p x).1 ∧ ((bump p x).2 = 0 ↔ x.at_ = 0) ∧ (0 < (bump p x).2 → ((x.at_ + x.b.length : Nat) : Int) ≤ size)
structure Chain (l : Lg) (s0 : Nat) (ps : List Pc) : Prop where
  last : (runC s0 ps).1 = l.seg
  many : (runC s0 ps).2 = 0 ↔ l.at_ = 0
  le : (runC s0 ps).2 ≤ ps.length
  fine : ∀ (i : Nat) (x : Pc), ps[i]? = some x → fineC l.most (runC s0 (ps.take i)) x
  tail : ∀ x : Pc, ps.getLast? = some x → x.seg = l.seg
  ends : ∀ (i j : Nat) (x y : Pc), ps[i]? = some x → ps[j]? = some y → i < j → x.seg ≤ y.seg
theorem chain_start (seg : Nat) (most : Int) : Chain ⟨seg, 0, most, seg, true⟩ seg [] := ⟨rfl, by simp [runC], by simp [runC], by simp, by simp, by simp⟩
theorem chain_snoc {l l' : Lg} {s0 : Nat} {ps : List Pc} {x : Pc} (h : Chain l s0 ps) (g : Went l l' x) (hx : 0 < x.b.length) (hle : ∀ y ∈ ps, y.seg ≤ l.seg) : Chain l' s0 (ps ++ [x]) := by
  have hb : x.seg = (bump (runC s0 ps) x).1 ∧ ((bump (runC s0 ps) x).2 = 0 ↔ x.at_ = 0) ∧ (0 < (bump (runC s0 ps) x).2 → ((x.at_ + x.b.length : Nat) : Int) ≤ l.most) ∧ (bump (runC s0 ps) x).2 ≤ ps.length := by
    have h1 := h.last
    have h2 := h.many
    have h3 := h.le
    unfold bump
    rcases g.way with ⟨w1, w2, w3⟩ | ⟨w1, w2, w3⟩
    · rw [if_neg (by rw [h1]; omega)]
      refine ⟨by rw [h1, w1], by rw [w2]; exact h2, fun hp => ?_, h3⟩
      rcases w3 with w3 | w3
      · exact absurd (h2.2 w3) (by omega)
      · exact w3
    · rw [if_pos ⟨by rw [h1, w1], w2⟩]
      exact ⟨rfl, by simp [w2], by simp, by simp⟩
  obtain ⟨b1, b2, b3, b4⟩ := hb
  refine ⟨?_, ?_, ?_, fun i y hy => ?_, fun y hy => ?_, fun i j y z hy hz hij => ?_⟩
  · rw [runC_snoc]; show (bump _ x).1 = _; rw [← b1, g.seg]
  · rw [runC_snoc]; have := g.at_; unfold stepC; simp only; omega
  · rw [runC_snoc]; simp only [stepC, List.length_append, List.length_cons, List.length_nil]; omega
  · rw [g.most]
    by_cases hi : i < ps.length
    · rw [List.getElem?_append_left hi] at hy
      rw [List.take_append_of_le_length (by omega)]
      exact h.fine i y hy
    · have : i = ps.length := by have := (List.getElem?_eq_some_iff.1 hy).1; simp at this; omega
      subst this
      simp at hy; subst hy
      rw [List.take_left]
      exact ⟨b1, b2, b3⟩
  · simp at hy; subst hy; exact g.seg
  · have hj := (List.getElem?_eq_some_iff.1 hz).1
    simp only [List.length_append, List.length_cons, List.length_nil] at hj
    rw [List.getElem?_append_left (by omega)] at hy
    by_cases hjl : j < ps.length
    · rw [List.getElem?_append_left hjl] at hz
      exact h.ends i j y z hy hz hij
    · rw [List.getElem?_append_right (by omega), show j - ps.length = 0 by omega] at hz
      simp at hz; subst hz
      have := hle y (List.mem_of_getElem? hy)
      rcases g.way with ⟨w1, _⟩ | ⟨w1, _⟩ <;> omega
/-- how many names there are. -/
theorem full_names {s : Dk} {room : Int} {l : Lg} {s0 c m : Nat} {ps : List Pc} (h : Full s room l s0 ps c m) : s.now.length = l.seg + 1 - s0 ∧ ∀ x ∈ s.now, ∃ k, okS k = true ∧ x.1 = sgN k := by
  obtain ⟨ds, fs, e, hd, hl, hf, hsum, hk, hn⟩ := h.ex
  rw [e.now]
  refine ⟨hl, fun x hx => ?_⟩
  obtain ⟨k, k1, k2, k3⟩ := hn x hx
  exact ⟨k, okS_le h.lg.seg k2, k3⟩
/-! ## What is cut -/
theorem full_cut {s : Dk} {room : Int} {l : Lg} {s0 c m i : Nat} {ps : List Pc} {x : Pc} (h : Full s room l s0 ps c m) (hx : ps[i]? = some x) (hseg : x.seg = l.seg) (hd : ∀ y ∈ ps.drop i, y.seg = x.seg) :
    (lgOpen s x.seg x.at_ l.most).2 = (some ⟨x.seg, x.at_, l.most, x.seg + 1, false⟩, 0) ∧ Full (lgOpen s x.seg x.at_ l.most).1 room ⟨x.seg, x.at_, l.most, x.seg + 1, false⟩ s0 (ps.take i) c m ∧ lgRead (lgOpen s x.seg x.at_ l.most).1 x.seg x.at_ = (zeroR, 0, 3) := by
  obtain ⟨ds, fs, e, hdl, hl, hf, hsum, hk, hn⟩ := h.ex
  obtain ⟨r1, r2, r3, r4⟩ := h.recs i x hx
  obtain ⟨q1, n, q2⟩ := hk x.seg r2 r3
  have hlg := h.lg
  have hok : okS x.seg = true := by rw [hseg]; exact hlg.seg
  have hm : mayL x.seg l.most = true := may_iff.2 ⟨hok, hlg.lo, hlg.hi⟩
  have hat := segB_at hx
  have hlen := r1.len
  have hlt : x.at_ < (segB ps x.seg).length := by rw [hat, List.length_append, List.length_append, ← r4]; omega
  obtain ⟨c1, c2⟩ := e.cut q1 q2 (k := x.at_) (by simp only; omega)
  simp only at c2
  have htake : (segB ps x.seg).take x.at_ = segB (ps.take i) x.seg := by rw [hat, r4, List.take_left]
  have eo : lgOpen s x.seg x.at_ l.most = ((cut s (sgN x.seg) x.at_).1, some ⟨x.seg, x.at_, l.most, x.seg + 1, false⟩, 0) := by
    unfold lgOpen
    rw [if_pos hm, e.read q1 q2]
    simp only [if_true]
    rw [if_neg (by omega), if_pos hlt, if_pos c1]
  rw [eo]
  have hset := sumF_set (y := ⟨(segB ps x.seg).take x.at_, min n x.at_⟩) q2
  have hll : ((segB ps x.seg).take x.at_).length ≤ (segB ps x.seg).length := by rw [List.length_take]; omega
  simp only at hset
  have hfull : Full (cut s (sgN x.seg) x.at_).1 room ⟨x.seg, x.at_, l.most, x.seg + 1, false⟩ s0 (ps.take i) c m := by
    refine ⟨⟨_, _, c2, hdl, by simp only; omega, by simp only [List.length_set]; omega, by omega, fun k k1 k2 => ?_, fun y hy => ?_⟩, ⟨hok, hlg.lo, hlg.hi, by simp, ?_⟩, r2, by have := h.most; simp only; omega, by simp only; exact r4, fun j y hy => ?_⟩
    · simp only at k2
      obtain ⟨p1, n1, p2⟩ := hk k k1 (by omega)
      refine ⟨p1, ?_⟩
      by_cases hkx : k = x.seg
      · subst hkx
        refine ⟨min n x.at_, ?_⟩
        rw [List.getElem?_set_self (List.getElem?_eq_some_iff.1 q2).1, htake]
      · refine ⟨n1, ?_⟩
        rw [List.getElem?_set_ne (by omega), p2]
        conv => { lhs; rw [← List.take_append_drop i ps, segB_app, segB_none (ps := ps.drop i) fun y hy => by rw [hd y hy]; exact fun e => hkx e.symm] }
        rw [List.append_nil]
    · obtain ⟨k, k1, k2, k3⟩ := hn y hy
      exact ⟨k, k1, by simp only; omega, k3⟩
    · show x.at_ ≤ 175 * c
      have : (segB ps x.seg).length ≤ sumF fs := by
        have h0 := sumF_set (y := ⟨[], 0⟩) q2
        simp only [List.length_nil] at h0
        omega
      omega
    · have hj := (List.getElem?_eq_some_iff.1 hy).1
      rw [List.length_take] at hj
      rw [List.getElem?_take_of_lt (by omega)] at hy
      obtain ⟨g1, g2, g3, g4⟩ := h.recs j y hy
      refine ⟨g1, g2, by simp only; omega, ?_⟩
      rw [List.take_take, Nat.min_eq_left (by omega)]
      exact g4
  refine ⟨rfl, hfull, ?_⟩
  obtain ⟨ds2, fs2, e2, _, _, _, _, hk2, _⟩ := hfull.ex
  obtain ⟨z1, n2, z2⟩ := hk2 x.seg r2 (Nat.le_refl _)
  unfold lgRead
  rw [if_pos hok, e2.read z1 z2]
  simp only [if_true]
  rw [if_neg (by omega), r4, List.drop_length]
  exact first_none
/-! ## What is sure -/
structure Fresh (l : Lg) (s0 : Nat) : Prop where
  dirty : l.dirty = s0
  begun : l.begun = true
theorem fresh_went {l l' : Lg} {s0 : Nat} {x : Pc} (h : Fresh l s0) (hs : s0 ≤ l.seg) (g : Went l l' x) : Fresh l' s0 := ⟨by rw [g.dirty (by rw [h.dirty]; exact hs), h.dirty], g.begun h.begun⟩
theorem syncs_ev {room : Int} {ds : List Dir} {s0 : Nat} : ∀ (n k : Nat) {s : Dk} {fs : List Fl}, Ev s room ds fs → s0 ≤ k → (∀ j, k ≤ j → j < k + n → findD (ds.getLastD []) (sgN j) = some (j - s0) ∧ j - s0 < fs.length) →
    (syncs n k s).2 = 0 ∧ ∃ fs', Ev (syncs n k s).1 room ds fs' ∧ fs'.length = fs.length ∧ ∀ f x, fs[f]? = some x → fs'[f]? = some (if k ≤ f + s0 ∧ f + s0 < k + n then ⟨x.b, x.b.length⟩ else x)
  | 0, k, s, fs, e, _, _ => ⟨rfl, fs, e, rfl, fun f x hx => by rw [if_neg (by omega)]; exact hx⟩
  | n + 1, k, s, fs, e, hk, h => by
    obtain ⟨h1, h2⟩ := h k (Nat.le_refl _) (by omega)
    obtain ⟨c1, c2⟩ := e.sync h1 (List.getElem?_eq_getElem h2)
    obtain ⟨g1, fs', g2, g3, g4⟩ := syncs_ev (s0 := s0) n (k + 1) c2 (by omega) fun j j1 j2 => by
      have := h j (by omega) (by omega)
      simpa using this
    unfold syncs
    rw [if_pos c1]
    refine ⟨g1, fs', g2, by simpa using g3, fun f x hx => ?_⟩
    by_cases hf : f = k - s0
    · subst hf
      have hx' : fs[k - s0] = x := by rw [List.getElem?_eq_getElem h2] at hx; exact Option.some.inj hx
      have := g4 (k - s0) ⟨x.b, x.b.length⟩ (by rw [List.getElem?_set_self h2, hx'])
      rw [this, if_neg (by omega), if_pos (by omega)]
    · have := g4 f x (by rw [List.getElem?_set_ne (fun e => hf e.symm)]; exact hx)
      rw [this]
      congr 1
      by_cases hc : k ≤ f + s0 ∧ f + s0 < k + (n + 1)
      · rw [if_pos hc, if_pos (by omega)]
      · rw [if_neg hc, if_neg (by omega)]
structure Sure (s : Dk) (l : Lg) (s0 at_ seg : Nat) (ps : List Pc) : Prop where
  inv : Inv s
  le : seg ≤ l.seg
  kept : ∀ k, s0 ≤ k → k ≤ seg → ∃ ex, Kept (sgN k) (k - s0) s (segB ps k ++ ex) (segB ps k).length ∧ (k < seg → ex = [])
theorem full_sync {s : Dk} {room : Int} {l : Lg} {s0 c m : Nat} {ps : List Pc} (h : Full s room l s0 ps c m) (hf : Fresh l s0) :
    (lgSync s l).2 = ({ l with dirty := l.seg + 1, begun := false }, 0) ∧ Sure (lgSync s l).1 { l with dirty := l.seg + 1, begun := false } s0 l.at_ l.seg ps ∧ (lgSync s l).1.dirs.length ≤ m + 2 ∧ (lgSync s l).1.files.length ≤ m + 1 := by
  obtain ⟨ds, fs, e, hdl, hl, hfl, hsum, hk, hn⟩ := h.ex
  have hseg := h.seg
  have hmost := h.most
  obtain ⟨g1, fs', g2, g3, g4⟩ := syncs_ev (s0 := s0) (l.seg + 1 - l.dirty) l.dirty e (by rw [hf.dirty]; exact Nat.le_refl _) fun j j1 j2 => by
    rw [hf.dirty] at j1 j2
    exact ⟨(hk j j1 (by omega)).1, by omega⟩
  obtain ⟨d1, d2⟩ := g2.dirsync
  have es : lgSync s l = ((dirsync (syncs (l.seg + 1 - l.dirty) l.dirty s).1).1, { l with dirty := l.seg + 1, begun := false }, 0) := by
    unfold lgSync
    simp only
    rw [if_pos g1, if_pos hf.begun, if_pos d1]
  rw [es]
  refine ⟨rfl, ⟨d2.inv, Nat.le_refl _, fun k k1 k2 => ⟨[], ⟨fun d hd => ?_, ?_⟩, fun _ => rfl⟩⟩, by simp only; rw [d2.dirs]; simp, by simp only; rw [d2.files, g3]; omega⟩
  · rw [d2.dirs] at hd
    rw [List.mem_singleton.1 hd]
    exact findD_mem (hk k k1 k2).1
  · obtain ⟨_, n, p⟩ := hk k k1 k2
    rw [List.append_nil, d2.files, g4 _ _ p, if_pos (by rw [hf.dirty]; omega)]
section
variable {s : Dk} {l : Lg} {s0 a seg : Nat} {ps : List Pc}
def ofC (n : ByteArray) : Go.Proofs.YtofllgbdphakiaaDoor.Act := ⟨0, 0, n, n, .slice none 0 0, .slice none 0 0⟩
def ofP (n : ByteArray) : Go.Proofs.YtofllgbdphakiaaDoor.Act := ⟨1, 0, n, n, .slice none 0 0, .slice none 0 0⟩
theorem sure_turn (h : Sure s l s0 a seg ps) (ht : okS l.seg = true) : Sure (lgTurn s l).1 (lgTurn s l).2.1 s0 a seg ps := by
  have hle := h.le
  have key : Sure (create s (sgN (l.seg + 1))).1 l s0 a seg ps := by
    refine ⟨inv_create h.inv _, hle, fun k k1 k2 => ?_⟩
    obtain ⟨ex, kp, hx⟩ := h.kept k k1 k2
    have hne : sgN (l.seg + 1) ≠ sgN k := sgN_ne (by omega)
    have := kept_act h.inv kp (ofC (sgN (l.seg + 1))) [] [] (by simp [ofC]) fun _ => ⟨hne, hne⟩
    unfold allAt at this
    simp only [ofC, Int.reduceEq, if_false, false_and] at this
    exact ⟨ex, by simpa [act] using this, hx⟩
  unfold lgTurn
  split
  · split
    · exact ⟨key.inv, by simp only; omega, key.kept⟩
    · exact key
  · exact h
theorem sure_put (h : Sure s l s0 a seg ps) (b : List UInt8) : Sure (lgPut s l b).1 (lgPut s l b).2.1 s0 a seg ps := by
  have hle := h.le
  have key : Sure (append s (sgN l.seg) b).1 l s0 a seg ps := by
    refine ⟨inv_append h.inv _ _, hle, fun k k1 k2 => ?_⟩
    obtain ⟨ex, kp, hx⟩ := h.kept k k1 k2
    have := kept_act h.inv kp (ofP (sgN l.seg)) b [] (by simp [ofP]) fun hq => absurd rfl hq
    unfold allAt at this
    simp only [act, ofP, Int.reduceEq, if_false, if_true, true_and] at this
    by_cases hs : sgN l.seg = sgN k ∧ (append s (sgN l.seg) b).2 = 0
    · rw [if_pos hs, List.append_assoc] at this
      refine ⟨ex ++ b, this, fun hk => ?_⟩
      exact absurd hs.1 (sgN_ne (by omega))
    · rw [if_neg hs] at this
      exact ⟨ex, this, hx⟩
  unfold lgPut
  split
  · exact ⟨key.inv, key.le, key.kept⟩
  · exact key
theorem sure_append (h : Sure s l s0 a seg ps) {m : Nat} (hl : LgOk l m) (k : Int) (ns : List Nat) (t : List UInt8) : Sure (lgAppend s l k ns t).1 (lgAppend s l k ns t).2.1 s0 a seg ps := by
  unfold lgAppend
  split
  · unfold lgB
    split
    · split
      · exact sure_put (sure_turn h hl.seg) _
      · exact sure_turn h hl.seg
    · exact sure_put h _
  · exact h
theorem sure_crash (h : Sure s l s0 a seg ps) (hs : s0 ≤ seg) (ha : a = (segB ps seg).length) (hok : okS seg = true) {most : Int} (hm : 64 ≤ most ∧ most ≤ 65536) (hr : ∀ i x, ps[i]? = some x → OkP x ∧ s0 ≤ x.seg ∧ x.seg ≤ seg ∧ x.at_ = (segB (ps.take i) x.seg).length) (op : Int) (tails : List Int) :
    (lgOpen (crash s op tails) seg a most).2 = (some ⟨seg, a, most, seg + 1, false⟩, 0) ∧ Held (lgOpen (crash s op tails) seg a most).1 ps := by
  have hi := inv_crash h.inv op tails
  -- what stands behind the crash
  obtain ⟨d, hd, hdm⟩ : ∃ d, (crash s op tails).dirs = [d] ∧ d ∈ s.dirs := by
    refine ⟨_, rfl, ?_⟩
    have hlen : 0 < s.dirs.length := List.length_pos_iff.2 h.inv.wf.ne
    rw [List.getD_eq_getElem?_getD, List.getElem?_eq_getElem (by omega)]
    exact List.getElem_mem _
  have ev : Ev (crash s op tails) (crash s op tails).room [d] (crash s op tails).files := ⟨hi, rfl, hd, rfl, rfl, rfl⟩
  have hrise : riseD d := h.inv.wf.rise d hdm
  have hkept : ∀ k, s0 ≤ k → k ≤ seg → findD ([d].getLastD []) (sgN k) = some (k - s0) ∧ ∃ x, (crash s op tails).files[k - s0]? = some x ∧ (segB ps k).length ≤ x.b.length ∧ x.b.take (segB ps k).length = segB ps k ∧ (k < seg → x.b = segB ps k) := by
    intro k k1 k2
    obtain ⟨ex, kp, hx⟩ := h.kept k k1 k2
    have hf : findD ([d].getLastD []) (sgN k) = some (k - s0) := findD_of_mem hrise (kp.ent d hdm)
    refine ⟨hf, ?_⟩
    obtain ⟨n, n1, n2, n3⟩ := kept_crash h.inv kp op tails
    have hlt : k - s0 < (crash s op tails).files.length := by
      have := pick_lt hi.wf (n := sgN k) (f := k - s0) (by rw [ev.now]; exact hf)
      exact this
    refine ⟨_, List.getElem?_eq_getElem hlt, ?_⟩
    have er := ev.read hf (List.getElem?_eq_getElem hlt)
    rw [n3] at er
    have eb : (crash s op tails).files[k - s0].b = (segB ps k ++ ex).take n := (congrArg Prod.fst er).symm
    rw [eb]
    refine ⟨by rw [List.length_take, List.length_append]; omega, ?_, fun hk => ?_⟩
    · rw [List.take_take, Nat.min_eq_left n1, List.take_left]
    · rw [hx hk, List.append_nil]
      rw [hx hk, List.append_nil] at n2
      exact List.take_of_length_le (by omega)
  obtain ⟨q1, x, q2, q3, q4, _⟩ := hkept seg hs (Nat.le_refl _)
  have hmay : mayL seg most = true := may_iff.2 ⟨hok, hm⟩
  have hrd := ev.read q1 q2
  -- the log is opened
  by_cases hlt : a < x.b.length
  · obtain ⟨c1, c2⟩ := ev.cut q1 q2 (k := a) (by omega)
    have eo : lgOpen (crash s op tails) seg a most = ((cut (crash s op tails) (sgN seg) a).1, some ⟨seg, a, most, seg + 1, false⟩, 0) := by
      unfold lgOpen
      rw [if_pos hmay, hrd]
      simp only [if_true]
      rw [if_neg (by omega), if_pos hlt, if_pos c1]
    rw [eo]
    refine ⟨rfl, ⟨fun i y hy => ?_⟩⟩
    obtain ⟨g1, g2, g3, g4⟩ := hr i y hy
    refine ⟨g1, okS_le hok g3, ?_, g4⟩
    obtain ⟨p1, z, p2, p3, p4, p5⟩ := hkept y.seg g2 g3
    by_cases hys : y.seg = seg
    · rw [hys]
      have hz : ((crash s op tails).files.set (seg - s0) ⟨x.b.take a, min x.sure a⟩)[seg - s0]? = some ⟨x.b.take a, min x.sure a⟩ := List.getElem?_set_self (List.getElem?_eq_some_iff.1 q2).1
      rw [c2.read q1 hz]
      simp only
      rw [ha, q4]
    · have hz : ((crash s op tails).files.set (seg - s0) ⟨x.b.take a, min x.sure a⟩)[y.seg - s0]? = some z := by rw [List.getElem?_set_ne (by omega)]; exact p2
      rw [c2.read p1 hz, p5 (by omega)]
  · have eo : lgOpen (crash s op tails) seg a most = (crash s op tails, some ⟨seg, a, most, seg + 1, false⟩, 0) := by
      unfold lgOpen
      rw [if_pos hmay, hrd]
      simp only [if_true]
      rw [if_neg (by omega), if_neg hlt]
    rw [eo]
    refine ⟨rfl, ⟨fun i y hy => ?_⟩⟩
    obtain ⟨g1, g2, g3, g4⟩ := hr i y hy
    refine ⟨g1, okS_le hok g3, ?_, g4⟩
    obtain ⟨p1, z, p2, p3, p4, p5⟩ := hkept y.seg g2 g3
    rw [ev.read p1 p2]
    congr 1
    by_cases hys : y.seg = seg
    · have hzx : z = x := by rw [hys] at p2; rw [q2] at p2; exact (Option.some.inj p2).symm
      subst hzx
      rw [hys] at p4 ⊢
      rw [← p4, List.take_of_length_le (by omega)]
    · exact p5 (by omega)
end
end Go.Sg
end

section
namespace Go.Proofs.YtofllgbdphakiaaDoor
open Go.Den Go.Disk Go.Nm Go.Rec Go.Frame Go.Vint Go.Crc Go.Sg
/-- all but the first thing: they are worked upon, the first one stays. -/
theorem At.zoomTail {w0 w w' : World} {F0 : List Nat} {P : HP} {ps : List HP} (h : At w0 F0 (stars (P :: ps)) w) (f : Fr [] w w') : ∃ A, At w' A (stars ps) w' ∧ (∀ b ∈ A, b < hsz w) ∧ (∀ b ∈ A, b ∈ F0 ∨ hsz w0 ≤ b) ∧ ∀ w2 ps', At w' A (stars ps') w2 → At w0 F0 (stars (P :: ps')) w2 := by
  obtain ⟨F, ⟨A, B, p1, p2, rfl, hd⟩, h2, h3⟩ := h
  have g := f.grow
  have g3 := h3.grow
  refine ⟨B, At.start ((stars ps).fr p2 f (by simp)), (stars ps).lt p2, fun b hb => h2 b (by simp [hb]), fun w2 ps' ⟨F', q1, q2, q3⟩ => ?_⟩
  refine ⟨A ++ F', ⟨A, F', P.fr (P.fr p1 f (by simp)) q3 hd, q1, rfl, fun b hb hb' => ?_⟩, fun b hb => ?_, (h3.trans' f.nil).trans q3 fun b hb => h2 b (by simp [hb])⟩
  · rcases q2 b hb' with hq | hq
    · exact hd b hb hq
    · have := P.lt p1 b hb; omega
  · rcases List.mem_append.1 hb with hb | hb
    · exact h2 b (by simp [hb])
    · rcases q2 b hb with hq | hq
      · exact h2 b (by simp [hq])
      · exact .inr (by omega)
theorem tabS_re {w w1 : World} {A : List Nat} (hT : Tab w) (f : Fr [] w w1) (hA : ∀ b ∈ A, b ∈ ([] : List Nat) ∨ hsz w ≤ b) : TabS w1 A := fun w' fr => (hT.fr f).far fr fun hb => by
  obtain ⟨T, g, b⟩ := hT
  have h1 := blk_lt b
  have h2 := hA _ hb
  simp at h2
  omega
section
variable {x y z u : Value}
instance : Ev (extractv (.tuple #[x, y, z, u]) 0) x := ⟨rfl⟩
instance : Ev (extractv (.tuple #[x, y, z, u]) 1) y := ⟨rfl⟩
instance : Ev (extractv (.tuple #[x, y, z, u]) 2) z := ⟨rfl⟩
instance : Ev (extractv (.tuple #[x, y, z, u]) 3) u := ⟨rfl⟩
end
abbrev Pe := Int × SV × ByteArray × Nat × Nat
def encPl (x : Pe) : List Value := [.int .i64 x.1, x.2.1.v, .string x.2.2.1, .int .u64 (x.2.2.2.1 : Int), .int .u64 (x.2.2.2.2 : Int)]
theorem encPl_len (x : Pe) : (encPl x).length = 5 := rfl
theorem encPl_one (x : Pe) : ∀ u ∈ encPl x, u.oneCell' = true := by intro u hu; simp [encPl] at hu; rcases hu with rfl | rfl | rfl | rfl | rfl <;> rfl
/-- places: each with its record's numbers, as these came in. -/
structure Pls (w : World) (cs : List Pe) (ps : List Pc) : Prop where
  len : cs.length = ps.length
  at_ : ∀ (i : Nat) (x : Pc), ps[i]? = some x → ∃ (s : SV) (t : ByteArray), cs[i]? = some (x.k, s, t, x.seg, x.at_) ∧ t.data.toList = x.t ∧ Arr encU 1 w s.v x.ns
theorem Pls.fr {w w' : World} {cs : List Pe} {ps : List Pc} (h : Pls w cs ps) (f : Fr [] w w') : Pls w' cs ps := ⟨h.len, fun i x hx => by
  obtain ⟨s, t, h1, h2, h3⟩ := h.at_ i x hx
  exact ⟨s, t, h1, h2, h3.fr f (by simp)⟩⟩
/-- records that came in. -/
structure RcsIn (w : World) (lv : Value) (cs : List (Int × SV × ByteArray)) : Prop where
  arr : Arr encRc 3 w lv cs
  at_ : ∀ c ∈ cs, ∃ ns, Arr encU 1 w c.2.1.v ns ∧ ∀ n ∈ ns, n < 18446744073709551616
theorem RcsIn.fr {w w' : World} {lv : Value} {cs : List (Int × SV × ByteArray)} (h : RcsIn w lv cs) (f : Fr [] w w') : RcsIn w' lv cs := ⟨h.arr.fr f (by simp), fun c hc => by
  obtain ⟨ns, h1, h2⟩ := h.at_ c hc
  exact ⟨ns, h1.fr f (by simp), h2⟩⟩
theorem ba_eq {a b : ByteArray} (h : a.data.toList = b.data.toList) : a = b := ByteArray.ext (Array.ext' h)
def largeR (c : Int × SV × ByteArray) : Bool := decide (100 < c.2.1.n) || decide (300 < c.2.2.size)
set_option linter.unusedSimpArgs false
set_option linter.unusedVariables false
set_option maxRecDepth 20000
set_option maxHeartbeats 4000000
attribute [local congr] BND_cg COND_cg GEF_cg
attribute [local irreducible] capl slicea load1 loadn iaddr iaddra faddr storev newslice binv lookv mupd mdel mlenv mentry mestore slicev slicev3 slices indexs indexav textv rangev nexts clearv shiftv eqaggv convi buildv pickv lens lenl unv nilchk extractv partn JOIN
section
variable {w : World} {R : Value → World → Prop}
theorem sq_Equal {a b : Value} {xs ys : List Nat} (ha : Arr encU 1 w a xs) (hb : Arr encU 1 w b ys) (hn : xs.length < 1000000000) (hR : ∀ w', Fr [] w w' → R (.bool (decide (xs = ys))) w') :
    CALL PR F_slices_Equal_uint64_uint64 [a, b] w R := by
  refine C_slices_Equal_uint64_uint64 ?_
  unfold M_slices_Equal_uint64_uint64
  by_cases hl : xs.length = ys.length
  · (repeat (first | refine BND_step ha.len ?_ | refine BND_step hb.len ?_ | refine gg ?_))
    refine loop_up 0 xs.length (fun i w' => Fr [] w w' ∧ xs.take i = ys.take i) ⟨Fr.refl _ _, rfl⟩ (by omega) ?_
    rintro i w1 - hi ⟨f1, e⟩ J m hJ
    by_cases hlt : i < xs.length
    · have hx := List.getElem?_eq_getElem hlt
      have hy := List.getElem?_eq_getElem (l := ys) (i := i) (by omega)
      generalize xs[i] = x at hx
      generalize ys[i] = y at hy
      obtain ⟨b1, o1, i1, _, _, l1⟩ := (ha.fr f1 (by simp)).spot hx rfl .i64
      obtain ⟨b2, o2, i2, _, _, l2⟩ := (hb.fr f1 (by simp)).spot hy rfl .i64
      (repeat (first | refine BND_step (l1 (w' := w1.drew) rfl (j := 0) rfl) ?_ | refine BND_step (l2 (w' := w1.drew) rfl (j := 0) rfl) ?_ | refine gg ?_))
      by_cases he : x = y
      · have he' : (x : Int) = (y : Int) := by rw [he]
        (repeat refine gg ?_)
        refine hJ _ hlt ⟨f1.trans' (Fr.drew _ _), ?_⟩
        rw [List.take_add_one, List.take_add_one, hx, hy, e, he]
      · have he' : ¬ (x : Int) = (y : Int) := by omega
        (repeat refine gg ?_)
        have := hR _ (f1.trans' (Fr.drew _ _))
        rwa [decide_eq_false (fun h => he (by subst h; rw [hx] at hy; exact Option.some.inj hy))] at this
    · (repeat refine gg ?_)
      have := hR _ f1
      rw [List.take_of_length_le (by omega), List.take_of_length_le (by omega)] at e
      rwa [decide_eq_true e] at this
  · (repeat (first | refine BND_step ha.len ?_ | refine BND_step hb.len ?_ | refine gg ?_))
    have := hR _ (Fr.refl _ _)
    rwa [decide_eq_false (fun h => hl (by rw [h]))] at this
/-- two records of the same kind, numbers and text. -/
theorem rq_Same {k : Int} {n1 n2 : SV} {ns : List Nat} {t : ByteArray} (h1 : Arr encU 1 w n1.v ns) (h2 : Arr encU 1 w n2.v ns) (hn : ns.length < 1000000000) (hR : ∀ w', Fr [] w w' → R (.bool true) w') :
    CALL PR F_record_Same [.agg (encRc (k, n1, t)).toArray, .agg (encRc (k, n2, t)).toArray] w R := by
  refine C_record_Same ?_
  unfold M_record_Same
  refine NEW_intro fun w1 b1 f1 z1 => NEW_intro fun w2 b2 f2 z2 => ?_
  replace b1 : blk w1 (hsz w) = some (.cells (encRc (k, n1, t)).toArray 26 (0, 0)) := b1
  replace b2 : blk w2 (hsz w1) = some (.cells (encRc (k, n2, t)).toArray 26 (0, 0)) := b2
  replace b1 := f2.some (by simp) b1
  unfold encRc at b1 b2
  have f12 := f1.trans' f2
  (repeat refine gg ?_)
  refine sq_Equal (h1.fr f12 (by simp)) (h2.fr f12 (by simp)) hn fun w3 f3 => ?_
  rw [decide_eq_true rfl]
  have c1 := f3.some (by simp) b1
  have c2 := f3.some (by simp) b2
  (repeat refine gg ?_)
  exact hR _ (f12.trans' f3)
theorem r5_Large1 (c : Int × SV × ByteArray) (hR : ∀ w', Fr [] w w' → R (.bool (largeR c)) w') : CALL PR F_tumbrelref05_Large [.agg (encRc c).toArray] w R := by
  refine C_tumbrelref05_Large ?_
  unfold M_tumbrelref05_Large
  refine NEW_intro fun w1 b1 f1 z1 => ?_
  replace b1 : blk w1 (hsz w) = some (.cells (encRc c).toArray 34 (0, 0)) := b1
  obtain ⟨k, nv, t⟩ := c
  unfold encRc SV.v at b1
  have := hR _ f1
  unfold largeR at this
  simp only at this
  by_cases q1 : 100 < nv.n
  · have q1' : (100 : Int) < (nv.n : Int) := by omega
    rw [decide_eq_true q1, Bool.true_or] at this
    (repeat refine gg ?_)
    exact this
  · have q1' : ¬ (100 : Int) < (nv.n : Int) := by omega
    rw [decide_eq_false q1, Bool.false_or] at this
    by_cases q2 : 300 < t.size
    · have q2' : (300 : Int) < (t.size : Int) := by omega
      rw [decide_eq_true q2] at this
      (repeat refine gg ?_)
      exact this
    · have q2' : ¬ (300 : Int) < (t.size : Int) := by omega
      rw [decide_eq_false q2] at this
      (repeat refine gg ?_)
      exact this
end
section
variable {w0 w w' : World} {F0 : List Nat} {d p : Nat} {s : Dk} {l : Lg} {R : Value → World → Prop}
theorem sg_there (hT : TabS w0 F0) (h : At w0 F0 (stars [pts p (lgC d l), diskHP d s]) w) (hi : Inv s) (hn : s.dirs.length < 100000000) {pv : Value} {cs : List Pe} {ps : List Pc} (ha : ∀ w', Fr F0 w0 w' → Arr encPl 5 w' pv cs) (hp : ∀ w', Fr F0 w0 w' → Pls w' cs ps) (hh : Held s ps) (hl : ps.length < 1000)
    (hR : ∀ w', At w0 F0 (stars [pts p (lgC d l), diskHP d s]) w' → R (.bool true) w') : CALL PR F_tumbrellaw15_there [ptrTo p, pv] w R := by
  refine C_tumbrellaw15_there ?_
  unfold M_tumbrellaw15_there
  have hcl := (hp _ h.frame).len
  refine BND_step (ha _ h.frame).len ?_
  refine loop_up 0 cs.length (fun i w' => At w0 F0 (stars [pts p (lgC d l), diskHP d s]) w') h (by omega) ?_
  rintro i w1 - hi1 h1 J m hJ
  by_cases hlt : i < cs.length
  · obtain ⟨x, hx⟩ : ∃ x, ps[i]? = some x := ⟨_, List.getElem?_eq_getElem (by omega)⟩
    obtain ⟨sv, t, c1, ct, c2⟩ := (hp _ h1.frame).at_ i x hx
    obtain ⟨okp, okx, _, _⟩ := hh.at_ i x hx
    have hrd := hh.read hx
    have hsx := okS_iff.1 okx
    obtain ⟨bb, oo, ia, ln, _, _⟩ := (ha _ h1.frame).spot c1 rfl .i64
    (repeat refine gg ?_)
    refine box_step (n := 5) (zs := [_, _, _, _, _]) (vs := encPl (x.k, sv, t, x.seg, x.at_)) rfl rfl (encPl_one _) (by simp [encPl]) fun w3 b3 f3 z3 => ?_
    have h3 := h1.fr0 f3
    have hatx : x.at_ < 18446744073709551616 := by
      obtain ⟨_, _, hr, hat⟩ := hh.at_ i x hx
      have h0 := read_sm hi (sgN x.seg)
      rw [hr] at h0
      have h1 := segB_at hx
      rw [hat]
      have h2 : (segB ps x.seg).length = _ := congrArg List.length h1
      rw [List.length_append] at h2
      simp only at h0
      omega
    have b3' : blk w3 (hsz w1) = some (.cells [.int .i64 x.k, sv.v, .string t, .int .u64 (x.seg : Int), .int .u64 (x.at_ : Int)].toArray 37 (0, 0)) := b3
    (repeat refine gg ?_)
    -- the block of the place stands apart
    have h3a : At w0 F0 (stars [pts (hsz w1) (encPl (x.k, sv, t, x.seg, x.at_)), pts p (lgC d l), diskHP d s]) w3 := h1.add f3 (P := pts (hsz w1) (encPl (x.k, sv, t, x.seg, x.at_))) (A := [hsz w1]) ⟨⟨_, b3⟩, rfl⟩ (by simp)
    obtain ⟨A, z3', zlt, zA, back⟩ := At.zoomTail h3a (Fr.refl _ _)
    have hTA : TabS w3 A := fun w' fr => hT w' (h3.frame.trans fr zA)
    refine sg_Read hTA z3' hi hn x.seg x.at_ (by omega) hatx fun w4 nv G z4 s4 g4 f4 => ?_
    rw [hrd] at s4 ⊢
    have h4 := back _ _ z4
    have c24 : Arr encU 1 w4 sv.v x.ns := c2.fr (f3.trans' f4) (by simp)
    have b4 : blk w4 (hsz w1) = _ := f4.some (by simp) b3
    (repeat refine gg ?_)
    refine box_step (n := 3) (zs := [_, _, _]) (vs := encRc ((x.rc.kind : Int), nv, txB x.rc.text)) rfl rfl (encRc_one _) (by simp [encRc]) fun w6 b6 f6 z6 => ?_
    have b36 := f6.some (by simp) b4
    have e36 : loadn 3 w6 (.pointer (some ⟨hsz w1, 0, none⟩)) = some (.agg (encRc (x.k, sv, t)).toArray) := by
      rw [loadn_blk b36 (by simp [encPl])]
      rfl
    (repeat refine gg ?_)
    have hts : t.size = x.t.length := by rw [← ct]; exact Array.length_toList.symm
    refine rec_Bytes x.k t (c24.fr f6 (by simp)) okp.small (fun w7 hno _ => by rw [hts, okp.right] at hno; cases hno) fun w7 v7 G7 _ s7 g7 f7 => ?_
    rw [ct] at s7
    have l7 := s7.len
    have b67 := f7.some (by simp) b6
    have b37 := f7.some (by simp) b36
    have e37 : loadn 3 w7 (.pointer (some ⟨hsz w1, 0, none⟩)) = some (.agg (encRc (x.k, sv, t)).toArray) := by
      rw [loadn_blk b37 (by simp [encPl])]
      rfl
    have e67 := loadn_all' b67 (encRc_len _)
    have eq7 : ((x.b.length : Nat) : Int) = (((recB x.k.toNat x.ns x.t).length : Nat) : Int) := rfl
    have hk : ((x.rc.kind : Nat) : Int) = x.k := by
      have := (right_known okp.right).1
      show ((x.k.toNat : Nat) : Int) = x.k
      omega
    have htx : txB x.rc.text = t := ba_eq (by show x.t = _; rw [ct])
    rw [hk, htx] at e67
    (repeat refine gg ?_)
    refine rq_Same (ns := x.ns) ((s4.fr f6 (by simp)).fr f7 (by simp)).arr ((c24.fr f6 (by simp)).fr f7 (by simp)) (by have := (right_known okp.right).2.2.1; have := manyOf_le x.k.toNat; omega) fun w8 f8 => ?_
    (repeat refine gg ?_)
    refine hJ _ hlt ?_
    exact (((At.tail (h4.fr0 f6)).fr0 f7).fr0 f8)
  · (repeat refine gg ?_)
    exact hR _ h1
end
end Go.Proofs.YtofllgbdphakiaaDoor
end

section
namespace Go.Proofs.YtofllgbdphakiaaDoor
open Go.Den Go.Disk Go.Rec Go.Vint
open Go.ChangeShapes Go.WideShapes Go.ChangeAt Go.RowKit
set_option linter.unusedVariables false
def RcOk (w : World) (c : Int × SV × ByteArray) : Prop := ∃ ns, Arr encU 1 w c.2.1.v ns ∧ ∀ n ∈ ns, n < 18446744073709551616
section
variable {H : Type} {enc : TypeId × Value → H} {w : World}
theorem u64n_dec (fuel : Nat) (cs : List Value) (y : DataW H × List MemPlace) (h : DataW.trod enc Tryd.prog w 0 (fun _ => true) true fuel 22 cs = some y) : ∃ x : Nat, cs = encU x ∧ x < 18446744073709551616 := by
  obtain ⟨a, e, _, q⟩ := DataW.trod_int Tryd.underlying22 h
  obtain ⟨n, rfl, hn⟩ := u64_nat q
  exact ⟨n, e, hn⟩
theorem intz_dec (fuel : Nat) (cs : List Value) (y : DataW H × List MemPlace) (h : DataW.trod enc Tryd.prog w 0 (fun _ => true) true fuel 3 cs = some y) : ∃ x : Int, cs = encI x ∧ True := by
  obtain ⟨a, e, _, q⟩ := DataW.trod_int Tryd.underlying3 h
  exact ⟨a, e, trivial⟩
theorem encIq_len (x : Int) : (encI x).length = 1 := rfl
set_option maxRecDepth 100000 in
theorem rec0_dec (fuel : Nat) (cs : List Value) (y : DataW H × List MemPlace) (h : DataW.trod enc Tryd.prog w 0 (fun _ => true) true fuel 26 cs = some y) : ∃ (a0 : Int) (a1 : Value) (a2 : ByteArray), cs = [.int .i64 a0, a1, .string a2] ∧ (Lit.int .i64 a0).wf = true ∧ (Capd a1 ∧ ∃ xs, Arr encU 1 w a1 xs ∧ (∀ x ∈ xs, (fun n => n < 18446744073709551616) x) ∧ ((y.1.weights Tryd.prog 26).all (· ≤ reachBytes) = true → xs.length * Tryd.prog.bytesOf 22 ≤ reachBytes)) ∧ a2.size ≤ 9223372036854775807 := by
  obtain ⟨y0, y1, y2, n, hy, hl, h0, h1, h2⟩ := trodS3 Tryd.underlying26 h
  have hc : Tryd.prog.cellsOf 26 = 3 := by kernel_rfl
  rw [hc] at hl
  have c0 : Tryd.prog.cellsOf 3 = 1 := by kernel_rfl
  have c1 : Tryd.prog.cellsOf 24 = 1 := by kernel_rfl
  have c2 : Tryd.prog.cellsOf 9 = 1 := by kernel_rfl
  match cs, hl with
  | [u0, u1, u2], _ =>
    simp only [c0, c1, c2, List.drop_zero, List.take_succ_cons, List.take_zero, List.drop_succ_cons] at h0 h1 h2
    have hWs : (y.1.weights Tryd.prog 26).all (· ≤ reachBytes) = true → (y0.1.weights Tryd.prog 3).all (· ≤ reachBytes) = true ∧ (y1.1.weights Tryd.prog 24).all (· ≤ reachBytes) = true ∧ (y2.1.weights Tryd.prog 9).all (· ≤ reachBytes) = true := by
      intro hW
      rw [hy] at hW
      simpa only [DataW.weights, Tryd.underlying26, List.map_cons, List.map_nil, DataW.weightsEach, List.all_append, List.all_nil, Bool.and_eq_true, and_true] using hW
    obtain ⟨a0, e0, _, q0⟩ := DataW.trod_int Tryd.underlying3 h0
    obtain ⟨a1, e1, q1⟩ := arr_of_cells (P := Tryd.prog) (encS := encU) (OK := (fun n => n < 18446744073709551616)) Tryd.underlying24 (show Tryd.prog.cellsOf 22 = 1 by kernel_rfl) (by omega) encU_len (u64n_dec) h1
    obtain ⟨a2, e2, _, q2⟩ := DataW.trod_string Tryd.underlying9 h2
    simp only [List.cons.injEq, and_true] at e0 e1 e2
    subst e0
    subst e1
    subst e2
    exact ⟨a0, u1, a2, rfl, q0, ⟨q1.1, q1.2.elim fun xs p => ⟨xs, p.1, p.2.1, fun hW => p.2.2 (hWs hW).2.1⟩⟩, q2⟩
theorem rcd_dec (fuel : Nat) (cs : List Value) (y : DataW H × List MemPlace) (h : DataW.trod enc Tryd.prog w 0 (fun _ => true) true fuel 26 cs = some y) : ∃ x : Int × SV × ByteArray, cs = encRc x ∧ RcOk w x := by
  obtain ⟨a0, a1, a2, e, _, ⟨⟨a, n, c, rfl, _⟩, xs, hx, hu, _⟩, _⟩ := rec0_dec _ _ _ h
  exact ⟨(a0, ⟨a, n, c⟩, a2), e, xs, hx, hu⟩
end
section
variable {w : World} {R : Value → World → Prop}
theorem rcs_in {lv : Value} {rs : List (Int × SV × ByteArray)} (h : Arr encRc 3 w lv rs) (ho : ∀ c ∈ rs, RcOk w c) : RcsIn w lv rs := ⟨h, ho⟩
end
end Go.Proofs.YtofllgbdphakiaaDoor
end

section
namespace Go.Proofs.YtofllgbdphakiaaDoor
open Go.Den Go.Disk Go.Nm Go.Rec Go.Frame Go.Vint Go.Crc Go.Sg Go.Ev
theorem tabS_start {w : World} (hT : Tab w) : TabS w [] := fun _ f => hT.fr f
/-- what stands behind many appends. -/
structure Made (w w' : World) (d p : Nat) (pv : Value) (cs : List Pe) (s : Dk) (l : Lg) (s0 : Nat) (ps : List Pc) (c m : Nat) : Prop where
  at_ : At w [] (stars [slc encPl 5 pv cs, pts p (lgC d l), diskHP d s]) w'
  pls : Pls w cs ps
  full : Full s 131072 l s0 ps c m
  chain : Chain l s0 ps
  fresh : Fresh l s0
  len : c = ps.length ∧ m ≤ ps.length
theorem pls_snoc {w : World} {cs : List Pe} {ps : List Pc} {sv : SV} {t : ByteArray} {x : Pc} (h : Pls w cs ps) (ht : t.data.toList = x.t) (ha : Arr encU 1 w sv.v x.ns) : Pls w (cs ++ [(x.k, sv, t, x.seg, x.at_)]) (ps ++ [x]) := by
  refine ⟨by simp [h.len], fun i y hy => ?_⟩
  by_cases hi : i < ps.length
  · rw [List.getElem?_append_left hi] at hy
    obtain ⟨s2, t2, h1, h2, h3⟩ := h.at_ i y hy
    exact ⟨s2, t2, by rw [List.getElem?_append_left (by rw [h.len]; exact hi)]; exact h1, h2, h3⟩
  · have : i = ps.length := by have := (List.getElem?_eq_some_iff.1 hy).1; simp at this; omega
    subst this
    simp at hy; subst hy
    exact ⟨sv, t, by rw [List.getElem?_append_right (by rw [h.len]; exact Nat.le_refl _), h.len]; simp, ht, ha⟩
set_option linter.unusedSimpArgs false
set_option linter.unusedVariables false
set_option maxRecDepth 20000
set_option maxHeartbeats 4000000
attribute [local congr] BND_cg COND_cg GEF_cg
attribute [local irreducible] capl slicea load1 loadn iaddr iaddra faddr storev newslice binv lookv mupd mdel mlenv mentry mestore slicev slicev3 slices indexs indexav textv rangev nexts clearv shiftv eqaggv convi buildv pickv lens lenl unv nilchk extractv partn JOIN
section
variable {w : World} {R : Value → World → Prop}
theorem sg_full (hT : Tab w) (seg : Nat) (hseg : seg < 18446744073709551616) (size : Int) {lv : Value} {rs : List (Int × SV × ByteArray)} (hin : RcsIn w lv rs) (hR0 : ∀ w', Fr [] w w' → R (.tuple #[.pointer none, .pointer none, .slice none 0 0, .bool false]) w')
    (hR : ∀ w' d p pv cs s l ps c m, seg ≤ 1000 → l.most = size → ps.length ≤ 50 → Made w w' d p pv cs s l seg ps c m → R (.tuple #[ptrTo d, ptrTo p, pv, .bool true]) w') :
    CALL PR F_tumbrellaw15_full [.int .u64 (seg : Int), .int .i64 size, lv] w R := by
  refine C_tumbrellaw15_full ?_
  unfold M_tumbrellaw15_full
  have hT0 := tabS_start hT
  refine dk_New 131072 (fun h => by omega) fun _ w1 d h1 => ?_
  have nil := ptr_nilS (d := d)
  have hlen := hin.arr.len
  by_cases q1 : 50 < rs.length
  · have q1' : (50 : Int) < (rs.length : Int) := by omega
    (repeat refine gg ?_)
    exact hR0 _ h1.frame
  have q1' : ¬ (50 : Int) < (rs.length : Int) := by omega
  by_cases q2 : 1000 < seg
  · have q2' : (1000 : Int) < (seg : Int) := by omega
    (repeat refine gg ?_)
    exact hR0 _ h1.frame
  have q2' : ¬ (1000 : Int) < (seg : Int) := by omega
  (repeat refine gg ?_)
  have hroom : (16 : Int) ≤ 131072 ∧ (131072 : Int) ≤ 1048576 := by omega
  refine sg_Begin hT0 h1 (inv_empty hroom) (by simp [empty]) (by simp [empty]) seg hseg size fun w2 o ho h2 => ?_
  cases hm : mayL seg size with
  | false =>
    have e : lgBegin (empty 131072) seg size = (empty 131072, none, 1) := by unfold lgBegin; rw [hm]; rfl
    rw [e] at ho h2 ⊢
    obtain rfl : o = none := by cases o with
      | none => rfl
      | some x => cases ho
    unfold valL
    (repeat refine gg ?_)
    exact hR0 _ h2.frame
  | true =>
    obtain ⟨e1, e2⟩ := full_start hroom hm
    rw [e1] at ho ⊢
    obtain ⟨p, rfl⟩ : ∃ p, o = some (p, ⟨seg, 0, size, seg, true⟩) := by
      cases o with
      | none => cases ho
      | some x => obtain ⟨p, l⟩ := x; simp at ho; exact ⟨p, by rw [ho]⟩
    have nil2 := ptr_nilS (d := p)
    unfold valL
    (repeat refine gg ?_)
    have h2a : At w [] (stars [slc encPl 5 (.slice none 0 0) [], pts p (lgC d ⟨seg, 0, size, seg, true⟩), diskHP d (lgBegin (empty 131072) seg size).1]) w2 := h2.add0 (P := slc encPl 5 (.slice none 0 0) []) (Slc.nil _ _ _)
    refine loop_up2 (o := .slice none 0 0) 0 rs.length (fun o i w' => ∃ cs s l ps c m, l.most = size ∧ ps.length = i ∧ Made w w' d p o cs s l seg ps c m)
      ⟨[], _, _, [], 0, 0, rfl, rfl, ⟨h2a, ⟨rfl, fun i x hx => by simp at hx⟩, e2, chain_start _ _, ⟨rfl, rfl⟩, by simp⟩⟩ (by omega) ?_
    rintro o i w3 - hi ⟨cs, s, l, ps, c, m, hmost, hpl, M⟩ J mm hJ
    by_cases hlt : i < rs.length
    · have hx := List.getElem?_eq_getElem hlt
      have hmem := List.getElem_mem hlt
      generalize rs[i] = r at hx hmem
      have f3 := M.at_.frame
      obtain ⟨bb, oo, ia, ln, _, _⟩ := (hin.arr.fr f3 (by simp)).spot hx rfl .i64
      obtain ⟨ns, hns, hsm⟩ := hin.at_ r hmem
      obtain ⟨k, sv, t⟩ := r
      simp only at hns
      (repeat refine gg ?_)
      refine box_step (n := 3) (zs := [_, _, _]) (vs := encRc (k, sv, t)) rfl rfl (encRc_one _) (by simp [encRc]) fun w5 b5 f5 z5 => ?_
      have e5 := loadn_all' b5 (encRc_len _)
      (repeat refine gg ?_)
      refine r5_Large1 (k, sv, t) fun w6 f6 => ?_
      have b6 := f6.some (by simp) b5
      have e6 := loadn_all' b6 (encRc_len _)
      have f06 := (f3.trans' f5).trans' f6
      cases hlg : largeR (k, sv, t) with
      | true =>
        (repeat refine gg ?_)
        exact hR0 _ f06
      | false =>
        (repeat refine gg ?_)
        refine rec_Right k t (hns.fr f06 (by simp)) fun w7 f7 => ?_
        have b7 := f7.some (by simp) b6
        have e7 := loadn_all' b7 (encRc_len _)
        have f07 := f06.trans' f7
        have ets : t.data.toList.length = t.size := Array.length_toList
        cases hrt : rightB k ns.length t.size with
        | false =>
          (repeat refine gg ?_)
          exact hR0 _ f07
        | true =>
          have hrt' : rightB k ns.length t.data.toList.length = true := by rw [ets]; exact hrt
          obtain ⟨A, z7, zlt, zA, back⟩ := At.zoomTail M.at_ ((f5.trans' f6).trans' f7)
          have hTA := tabS_re hT f07 zA
          have hsm2 := M.full.small
          obtain ⟨cl, ml⟩ := M.len
          (repeat refine gg ?_)
          refine sg_Append hTA z7 M.full.inv (by omega) (by omega) M.full.lg (by omega) k t (hns.fr f07 (by simp)) hsm fun w8 z8 => ?_
          obtain ⟨x, xk, xn, xt, xe, ⟨m', xm, xf⟩, xw⟩ := full_append M.full (by omega) (by omega) (by omega) hrt' hsm
          rw [xe]
          have h8 := back _ _ z8
          have b8 : blk w8 (hsz w3) = some (.cells (encRc (k, sv, t)).toArray 26 (0, 0)) := z8.frame.some (fun hb => by have := zlt _ hb; omega) b7
          have e8 := loadn_all' b8 (encRc_len _)
          have hle : ∀ y ∈ ps, y.seg ≤ l.seg := fun y hy => by
            obtain ⟨j, hj⟩ := List.mem_iff_getElem?.1 hy
            exact (M.full.recs j y hj).2.2.1
          have hxl : 0 < x.b.length := by
            have := (xf.recs ps.length x (by simp)).1.len
            omega
          (repeat (first | refine gg ?_ | (apply BND_build (encPl (k, sv, t, x.seg, x.at_)); exact rfl)))
          refine newone_step (enc := encPl) (x := (k, sv, t, x.seg, x.at_)) encPl_len rfl fun t9 w9 s9 f9 z9 => ?_
          refine (h8.fr0 f9).append (i := 0) rfl (s9.loads encPl_len) encPl_len encPl_one rfl (by omega) (by have := M.pls.len; simp; omega) fun v10 w10 h10 _ => ?_
          (repeat refine gg ?_)
          refine hJ _ _ hlt ⟨cs ++ [(k, sv, t, x.seg, x.at_)], _, _, ps ++ [x], c + 1, m', by rw [xw.most]; exact hmost, by simp [hpl], ⟨h10, ?_, xf, chain_snoc M.chain xw hxl hle, fresh_went M.fresh M.full.seg xw, by simp [cl], by simp; omega⟩⟩
          have := pls_snoc (sv := sv) (t := t) (x := x) M.pls (by rw [xt]) (by rw [xn]; exact hns)
          rw [xk] at this
          exact this
    · have hil : i = rs.length := by omega
      (repeat refine gg ?_)
      exact hR w3 d p o cs s l ps c m (by omega) hmost (by omega) M
theorem tick_len : (recB 7 [5] []).length = 12 := by decide +kernel
theorem sg_awake (hT : Tab w) (hR : ∀ w', Fr [] w w' → R (.bool true) w') : CALL PR F_tumbrellaw15_awake [] w R := by
  refine C_tumbrellaw15_awake ?_
  unfold M_tumbrellaw15_awake
  have hT0 := tabS_start hT
  have hroom : (16 : Int) ≤ 200 ∧ (200 : Int) ≤ 1048576 := by omega
  refine dk_New 200 (fun h => by omega) fun _ w1 d h1 => ?_
  have nil := ptr_nilS (d := d)
  (repeat refine gg ?_)
  refine sg_Begin hT0 h1 (inv_empty hroom) (by simp [empty]) (by simp [empty]) 1 (by omega) 64 fun w2 o ho h2 => ?_
  have hm : mayL 1 64 = true := by decide
  obtain ⟨e1, e2⟩ := full_start hroom hm
  rw [e1] at ho ⊢
  obtain ⟨p, rfl⟩ : ∃ p, o = some (p, ⟨1, 0, 64, 1, true⟩) := by
    cases o with
    | none => cases ho
    | some x => obtain ⟨p, l⟩ := x; simp at ho; exact ⟨p, by rw [ho]⟩
  have nil2 := ptr_nilS (d := p)
  unfold valL
  (repeat refine gg ?_)
  refine newone_step (enc := encU) (x := 5) encU_len rfl fun t3 w3 s3 f3 z3 => ?_
  obtain ⟨sv, rfl⟩ := slc_sv s3
  (repeat (first | refine gg ?_ | (apply BND_build (encRc (7, sv, ⟨#[]⟩)); exact rfl)))
  have h3 : At w [] (stars [pts p (lgC d ⟨1, 0, 64, 1, true⟩), diskHP d (lgBegin (empty 200) 1 64).1]) w3 := At.fr0 (P := stars [pts p (lgC d ⟨1, 0, 64, 1, true⟩), diskHP d (lgBegin (empty 200) 1 64).1]) h2 f3
  have hsm := e2.small
  refine sg_Append hT0 h3 e2.inv (by omega) (by omega) e2.lg (by omega) 7 ⟨#[]⟩ s3.arr (by intro n hn; simp at hn; omega) fun w4 h4 => ?_
  obtain ⟨x, xk, xn, xt, xe, ⟨m', xm, xf⟩, xw⟩ := full_append e2 (by omega) (by omega) (by omega) (k := 7) (ns := [5]) (t := []) (by decide) (by intro n hn; simp at hn; omega)
  have ew : (⟨#[]⟩ : ByteArray).data.toList = [] := rfl
  rw [ew] at h4 ⊢
  rw [xe]
  obtain ⟨hxs, hxa⟩ : x.seg = 1 ∧ x.at_ = 0 := by
    rcases xw.way with ⟨a, b, _⟩ | ⟨_, _, c⟩
    · exact ⟨a, b⟩
    · exact absurd c (by simp)
  have hxb : x.b = recB 7 [5] [] := by unfold Pc.b; rw [xk, xn, xt]; rfl
  have hat' := xw.at_
  have hseg' := xw.seg
  have hmost' := xw.most
  have hxl : x.b.length = 12 := by rw [hxb]; exact tick_len
  generalize hA : lgAppend (lgBegin (empty 200) 1 64).1 ⟨1, 0, 64, 1, true⟩ 7 [5] [] = q at *
  obtain ⟨s, l, q2⟩ := q
  simp only at h4 xf xw hat' hseg' hmost'
  have hsm2 := xf.small
  have hrd := xf.held.read (i := 0) (x := x) rfl
  rw [hxs, hxa, hxl] at hrd
  have hrs : Disk.read s (sgN 1) = (x.b, 0) := by
    have := (xf.held.at_ 0 x rfl).2.2.1
    rw [hxs] at this
    rw [this, List.nil_append, segB_one, if_pos hxs]
  have hrd2 : lgRead s 1 12 = (zeroR, 0, 3) := by
    unfold lgRead
    rw [if_pos (by decide), hrs]
    simp only [if_true]
    rw [if_neg (by omega), List.drop_eq_nil_of_le (by omega)]
    exact first_none
  have hop : lgOpen s 1 13 64 = (s, none, 3) := by
    unfold lgOpen
    rw [if_pos (by decide), hrs]
    simp only [if_true]
    rw [if_pos (by omega)]
  obtain ⟨hs1, _, _, _⟩ := full_sync xf (fresh_went ⟨rfl, rfl⟩ (Nat.le_refl _) xw)
  (repeat refine gg ?_)
  have xs0 : ((x.seg : Nat) : Int) = 1 := by rw [hxs]; rfl
  have xa0 : ((x.at_ : Nat) : Int) = 0 := by rw [hxa]; rfl
  refine sg_Read hT0 h4 xf.inv (by omega) 1 0 (by omega) (by omega) fun w5 nv G h5 s5 g5 f5 => ?_
  rw [hrd] at s5 ⊢
  (repeat refine gg ?_)
  refine box_step (n := 3) (zs := [_, _, _]) (vs := encRc ((x.rc.kind : Int), nv, txB x.rc.text)) rfl rfl (encRc_one _) (by simp [encRc]) fun w7 b7 f7 z7 => ?_
  have h7 := h5.fr0 f7
  refine sg_End h7 ?_
  have h7d := h7.fr0 (Fr.drew [] w7)
  (repeat refine gg ?_)
  refine sg_Read hT0 h7d xf.inv (by omega) 1 12 (by omega) (by omega) fun w9 nv9 G9 h9 s9 g9 f9 => ?_
  rw [hrd2]
  (repeat refine gg ?_)
  refine box_step (n := 3) (zs := [_, _, _]) (vs := encRc ((zeroR.kind : Int), nv9, txB zeroR.text)) rfl rfl (encRc_one _) (by simp [encRc]) fun w11 b11 f11 z11 => ?_
  have f5_11 : Fr [] w5 w11 := ((f7.trans' (Fr.drew [] w7)).trans' f9).trans' f11
  obtain ⟨A, za, zlt, zA, back⟩ := At.zoom3 h5 f5_11 1 rfl
  have hTA := tabS_re hT (h5.fr0 f5_11).frame zA
  refine sg_Open hTA za xf.inv (by omega) 1 13 (by omega) (by omega) 64 fun w12 o12 ho12 h12 => ?_
  rw [hop] at ho12 h12 ⊢
  obtain rfl : o12 = none := by cases o12 with
    | none => rfl
    | some x => cases ho12
  have b11' : blk w11 (hsz w5) = _ := (((Fr.drew [] w7).trans' f9).trans' f11).some (by simp) b7
  have b12 : blk w12 (hsz w5) = _ := h12.frame.some (fun hb => by have := zlt _ hb; omega) b11'
  unfold encRc at b12
  have hk7 : ((x.rc.kind : Nat) : Int) = 7 := by show ((x.k.toNat : Nat) : Int) = 7; rw [xk]; rfl
  have hat12 : ((l.at_ : Nat) : Int) = 12 := by omega
  have h12b : At w [] (stars [pts p (lgC d l), diskHP d s]) w12 := back _ _ (At.unwrap h12)
  unfold valL
  (repeat refine gg ?_)
  refine sg_Sync hT0 h12b xf.inv (by omega) xf.lg fun w13 h13 => ?_
  rw [hs1]
  (repeat refine gg ?_)
  exact hR _ h13.frame
end
end Go.Proofs.YtofllgbdphakiaaDoor
end

section
namespace Go.Proofs.YtofllgbdphakiaaDoor
open Go.Den Go.Disk Go.Nm Go.Rec Go.Frame Go.Vint Go.Crc Go.Sg Go.Ev
/-- the first thing stays where it is. -/
theorem At.zoomT {w0 w w' : World} {F0 : List Nat} {P : HP} {ps : List HP} (h : At w0 F0 (stars (P :: ps)) w) (f : Fr [] w w') : ∃ A, At w' A (stars ps) w' ∧ (∃ B, P.p w' B ∧ ∀ b ∈ B, b ∉ A) ∧ (∀ b ∈ A, b < hsz w) ∧ (∀ b ∈ A, b ∈ F0 ∨ hsz w0 ≤ b) ∧ ∀ w2 ps', At w' A (stars ps') w2 → At w0 F0 (stars (P :: ps')) w2 := by
  obtain ⟨F, ⟨A, B, p1, p2, rfl, hd⟩, h2, h3⟩ := h
  have g := f.grow
  have g3 := h3.grow
  refine ⟨B, At.start ((stars ps).fr p2 f (by simp)), ⟨A, P.fr p1 f (by simp), hd⟩, (stars ps).lt p2, fun b hb => h2 b (by simp [hb]), fun w2 ps' ⟨F', q1, q2, q3⟩ => ?_⟩
  refine ⟨A ++ F', ⟨A, F', P.fr (P.fr p1 f (by simp)) q3 hd, q1, rfl, fun b hb hb' => ?_⟩, fun b hb => ?_, (h3.trans' f.nil).trans q3 fun b hb => h2 b (by simp [hb])⟩
  · rcases q2 b hb' with hq | hq
    · exact hd b hb hq
    · have := P.lt p1 b hb; omega
  · rcases List.mem_append.1 hb with hb | hb
    · exact h2 b (by simp [hb])
    · rcases q2 b hb with hq | hq
      · exact h2 b (by simp [hq])
      · exact .inr (by omega)
/-- places, as they stand while a log is worked upon. -/
theorem places_in {w w2 : World} {A B : List Nat} {pv : Value} {cs : List Pe} {ps : List Pc} (hp : Pls w cs ps) (f : Fr [] w w2) (hB : (slc encPl 5 pv cs).p w2 B) (hd : ∀ b ∈ B, b ∉ A) (hA : ∀ b ∈ A, b ∈ ([] : List Nat) ∨ hsz w ≤ b) :
    (∀ w', Fr A w2 w' → Arr encPl 5 w' pv cs) ∧ ∀ w', Fr A w2 w' → Pls w' cs ps := by
  refine ⟨fun w' fr => (Slc.fr (show Slc encPl 5 w2 pv cs B from hB) fr hd).arr, fun w' fr => hp.fr (f.trans fr hA)⟩
end Go.Proofs.YtofllgbdphakiaaDoor
end

section
namespace Go.Proofs.YtofllgbdphakiaaDoor
open Go.Den Go.Disk Go.Nm Go.Rec Go.Frame Go.Vint Go.Crc Go.Sg Go.Ev
theorem Pls.take {w : World} {cs : List Pe} {ps : List Pc} (h : Pls w cs ps) (n : Nat) : Pls w (cs.take n) (ps.take n) := ⟨by rw [List.length_take, List.length_take, h.len], fun i x hx => by
  have hi := (List.getElem?_eq_some_iff.1 hx).1
  rw [List.length_take] at hi
  rw [List.getElem?_take_of_lt (by omega)] at hx
  obtain ⟨s, t, h1, h2, h3⟩ := h.at_ i x hx
  exact ⟨s, t, by rw [List.getElem?_take_of_lt (by omega)]; exact h1, h2, h3⟩⟩
section
variable {α : Type} {enc : α → List Value} {sz : Nat} {w : World} {v : Value} {xs ys : List α} {F : List Nat}
/-- 'v[:n:n]': it has no room behind. -/
theorem Slc.upto3 (h : Slc enc sz w v xs F) (hl : ∀ x, (enc x).length = sz) {n : Nat} (hn : n ≤ xs.length) : ∃ a, slicev3 sz v none (.int .i64 (n : Int)) (.int .i64 (n : Int)) = some (.slice a n n) ∧ ∀ w', (∀ b ∈ F, blk w' b = blk w b) → cellsOfArg w' sz (.slice a n n) = some (flat enc (xs.take n), n) := by
  obtain ⟨v', e1, e2⟩ := h.upto hl hn .i64
  obtain ⟨a, cap, hv, hc⟩ : ∃ a cap, v = .slice a xs.length cap ∧ xs.length ≤ cap := by
    rcases h with ⟨rfl, rfl, _⟩ | ⟨b, cap, c, T, rfl, _, hc, _⟩
    · exact ⟨_, _, rfl, Nat.le_refl _⟩
    · exact ⟨_, _, rfl, hc⟩
  subst hv
  have ev : v' = .slice (if cap = 0 then a else a.map (·.add (0 * sz))) n cap := by
    unfold slicev at e1
    simp only [natOf] at e1
    simp [show n ≤ cap by omega] at e1
    rw [← e1]
    congr 1
    simp
  have ea : ∀ (a : Option Addr), a.map (·.add (0 * sz)) = a := by
    intro a
    cases a with
    | none => rfl
    | some a => obtain ⟨b, o, p⟩ := a; cases p <;> simp [Addr.add]
  rw [ea, ite_self] at ev
  refine ⟨a, ?_, fun w' hw => ?_⟩
  · unfold slicev3
    simp only [natOf]
    simp only [Int.natCast_nonneg, if_true, Int.toNat_natCast, Nat.le_refl, Nat.zero_le, and_true, Nat.sub_zero]
    rw [if_pos (by omega), ea, ite_self]
  · have := e2 w' hw
    rw [ev, List.length_take, Nat.min_eq_left hn] at this
    have hh : cellsOfArg w' sz (.slice a n cap) = cellsOfArg w' sz (.slice a n n) := by cases a <;> rfl
    rw [← hh]
    exact this
/-- what is put behind a slice without room: all stands anew. -/
theorem APPEND_full {E bytes n : Nat} {zero u : Value} {a : Option Addr} {k : Value → World → Prop} (hn : n = xs.length) (hlo : cellsOfArg w sz (.slice a n n) = some (flat enc xs, n)) (hu : cellsOfArg w sz u = some (flat enc ys, ys.length)) (hl : ∀ x, (enc x).length = sz)
    (hz : zero.cells.size = sz) (hb : (xs.length + ys.length) * bytes ≤ 140737488355328) (hmax : xs.length + ys.length ≤ 9223372036854775807) (hy : 0 < ys.length)
    (hk : ∀ v' w' F', Slc enc sz w' v' (xs ++ ys) F' → Fr [] w w' → (∀ b ∈ F', hsz w ≤ b) → k v' w') : APPEND E sz bytes zero (.slice a n n) u w k := by
  subst hn
  refine ⟨?_⟩
  unfold APPENDS
  simp only [hu]
  rw [if_neg (by omega)]
  refine ⟨?_, growslice_fits (by omega) hb, ?_⟩
  · have : (IntKind.i64.max : Int) = 9223372036854775807 := by decide
    omega
  · rw [hlo]
    simp only [BND_some]
    intro cp w' hcp hh hrest
    have hsz' : hsz w' = hsz w := by unfold hsz; rw [hh]
    have heq : w'.heap = w.heap := hh
    refine hk _ _ [hsz w] (.inr ⟨hsz w, cp, _, E, by simp, by rw [← hsz']; exact blk_alloc_new _ _, by simpa using hcp, ?_, rfl, ?_⟩) ⟨by simp [hsz'], fun b hb1 _ => ?_, hrest.1, hrest.2.1, hrest.2.2⟩ (by simp)
    · simp only [Array.size_append, List.size_toArray, flat_len hl, Builtin.zeroCells, Array.size_map, Array.size_range, hz]
      rw [← Nat.add_mul, ← Nat.add_mul]
      congr 1; omega
    · intro i x hx j hj
      have h3 := flat_get hl (xs ++ ys) i x j hx hj
      have h4 := flat_len (enc := enc) hl (xs ++ ys)
      have hi : i < (xs ++ ys).length := (List.getElem?_eq_some_iff.1 hx).1
      have h5 : i * sz + j < (flat enc (xs ++ ys)).length := by rw [h4]; exact idx_lt hi (Nat.le_refl _) hj
      rw [← h3]
      rw [flat_append] at h5 ⊢
      exact app_get _ _ _ h5
    · rw [blk_alloc_old (by omega), heap_ext heq]
end
set_option linter.unusedSimpArgs false
set_option linter.unusedVariables false
set_option maxRecDepth 20000
set_option maxHeartbeats 4000000
attribute [local congr] BND_cg COND_cg GEF_cg
attribute [local irreducible] capl slicea load1 loadn iaddr iaddra faddr storev newslice binv lookv mupd mdel mlenv mentry mestore slicev slicev3 slices indexs indexav textv rangev nexts clearv shiftv eqaggv convi buildv pickv lens lenl unv nilchk extractv partn JOIN
section
variable {w : World} {R : Value → World → Prop}
theorem sg_Cut (hT : Tab w) (seg : Nat) (hseg : seg < 18446744073709551616) (size : Int) {lv : Value} {rs : List (Int × SV × ByteArray)} (hin : RcsIn w lv rs) (cut : Int) (k : Int) (sv : SV) (t : ByteArray) {ns : List Nat} (hns : Arr encU 1 w sv.v ns) (hsm : ∀ n ∈ ns, n < 18446744073709551616) (hR : ∀ w', Fr [] w w' → R (.bool true) w') :
    CALL PR F_tumbrellaw15_SeglogCut [.int .u64 (seg : Int), .int .i64 size, lv, .int .i64 cut, .agg (encRc (k, sv, t)).toArray] w R := by
  refine C_tumbrellaw15_SeglogCut ?_
  unfold M_tumbrellaw15_SeglogCut
  refine NEW_intro fun w1 b1 f1 z1 => ?_
  replace b1 : blk w1 (hsz w) = some (.cells (encRc (k, sv, t)).toArray 26 (0, 0)) := b1
  refine sg_awake (hT.fr f1) fun w2 f2 => ?_
  have f02 := f1.trans' f2
  (repeat refine gg ?_)
  have hT2 := hT.fr f02
  refine sg_full hT2 seg hseg size (hin.fr f02) (fun w3 f3 => ?_) fun w3 d p pv cs s l ps c m hs1000 hmost hpl M => ?_
  · (repeat refine gg ?_)
    exact hR _ (f02.trans' f3)
  have f3 := M.at_.frame
  have f03 := f02.trans' f3
  obtain ⟨hcl, hml⟩ := M.len
  have hcp := M.pls.len
  obtain ⟨B3, sl3', _⟩ := M.at_.get 0 rfl
  have sl3 : Slc encPl 5 w3 pv cs B3 := sl3'
  have hlen := sl3.len
  have b3 : blk w3 (hsz w) = _ := (f2.trans' f3).some (by simp) b1
  have e3 := loadn_all' b3 (encRc_len _)
  by_cases q1 : cut < 0
  · (repeat refine gg ?_)
    exact hR _ f03
  by_cases q2 : (cs.length : Int) ≤ cut
  · (repeat refine gg ?_)
    exact hR _ f03
  obtain ⟨i, rfl⟩ : ∃ i : Nat, cut = (i : Int) := ⟨cut.toNat, by omega⟩
  (repeat refine gg ?_)
  refine r5_Large1 (k, sv, t) fun w4 f4 => ?_
  have b4 := f4.some (by simp) b3
  have e4 := loadn_all' b4 (encRc_len _)
  have f04 := f03.trans' f4
  cases hlg : largeR (k, sv, t) with
  | true =>
    (repeat refine gg ?_)
    exact hR _ f04
  | false =>
  (repeat refine gg ?_)
  refine rec_Right k t (hns.fr f04 (by simp)) fun w5 f5 => ?_
  have f05 := f04.trans' f5
  have ets : t.data.toList.length = t.size := Array.length_toList
  cases hrt : rightB k ns.length t.size with
  | false =>
    (repeat refine gg ?_)
    exact hR _ f05
  | true =>
  have hrt' : rightB k ns.length t.data.toList.length = true := by rw [ets]; exact hrt
  have b5 := f5.some (by simp) b4
  obtain ⟨x, hx⟩ : ∃ x, ps[i]? = some x := ⟨_, List.getElem?_eq_getElem (by omega)⟩
  obtain ⟨sx, tx, c1, ct, c2⟩ := M.pls.at_ i x hx
  obtain ⟨okx, hx1, hx2, hx3⟩ := M.full.recs i x hx
  have sl5 := (sl3.fr f4 (by simp)).fr f5 (by simp)
  obtain ⟨bb, oo, ia, ln, _, _⟩ := sl5.arr.spot c1 rfl .i64
  (repeat refine gg ?_)
  refine box_step (n := 5) (zs := [_, _, _, _, _]) (vs := encPl (x.k, sx, tx, x.seg, x.at_)) rfl rfl (encPl_one _) (by simp [encPl]) fun w7 b7 f7 z7 => ?_
  have f37 := (f4.trans' f5).trans' f7
  have f07 := f05.trans' f7
  obtain ⟨A, h7, zlt, zA, back⟩ := At.re3 M.at_ f37
  have g3 := f3.grow
  have g37 := f37.grow
  have g35 := (f4.trans' f5).grow
  have hAw : ∀ b ∈ A, b ∈ ([] : List Nat) ∨ hsz w ≤ b := fun b hb => (zA b hb).imp id fun h => by have := f02.grow; omega
  have out : ∀ {A8 : List Nat}, (∀ b ∈ A8, b ∈ A ∨ hsz w7 ≤ b) → ∀ b ∈ A8, b ∈ ([] : List Nat) ∨ hsz w ≤ b := fun h b hb => by
    rcases h b hb with q | q
    · exact hAw b q
    · exact .inr (by have := f07.grow; omega)
  have out2 : ∀ {A8 : List Nat}, (∀ b ∈ A8, b ∈ A ∨ hsz w7 ≤ b) → ∀ b ∈ A8, b ∈ ([] : List Nat) ∨ hsz w2 ≤ b := fun h b hb => by
    rcases h b hb with q | q
    · exact zA b q
    · exact .inr (by omega)
  have b7w : blk w7 (hsz w) = some (.cells (encRc (k, sv, t)).toArray 26 (0, 0)) := f7.some (by simp) b5
  have nx : hsz w5 ∉ A := fun hb => by have := zlt _ hb; omega
  have nr : hsz w ∉ A := fun hb => by
    rcases zA _ hb with q | q
    · simp at q
    · have := f02.grow; have := z1; have := f2.grow; omega
  have b7' : blk w7 (hsz w5) = some (.cells [.int .i64 x.k, sx.v, .string tx, .int .u64 (x.seg : Int), .int .u64 (x.at_ : Int)].toArray 37 (0, 0)) := b7
  have hix : i ≤ cs.length := by omega
  have sl7 := sl5.fr f7 (by simp)
  obtain ⟨pv2, ep2, sp2⟩ := sl7.arrC.from (lo := i) hix
  have lp2 := sp2.len
  have hdl : (cs.drop i).length = cs.length - i := List.length_drop
  (repeat refine gg ?_)
  refine loop_up 0 (cs.drop i).length (fun j w' => Fr [] w7 w' ∧ ∀ y ∈ (ps.drop i).take j, y.seg = x.seg) ⟨Fr.refl _ _, by simp⟩ (by omega) ?_
  rintro j w8 - hj ⟨f78, hsame⟩ J mm hJ
  by_cases hlt : j < (cs.drop i).length
  · have hlt' : j < (ps.drop i).length := by rw [List.length_drop] at hlt ⊢; omega
    obtain ⟨y, hy⟩ : ∃ y, (ps.drop i)[j]? = some y := ⟨_, List.getElem?_eq_getElem hlt'⟩
    have hy' : ps[i + j]? = some y := by rw [List.getElem?_drop] at hy; exact hy
    obtain ⟨sy, ty, d1, dt, d2⟩ := M.pls.at_ (i + j) y hy'
    have d1' : (cs.drop i)[j]? = some (y.k, sy, ty, y.seg, y.at_) := by rw [List.getElem?_drop]; exact d1
    obtain ⟨bb2, oo2, ia2, ln2, _, _⟩ := (sp2.fr f78 (by simp)).arr.spot d1' rfl .i64
    have b8x := f78.some (by simp) b7'
    (repeat refine gg ?_)
    refine box_step (n := 5) (zs := [_, _, _, _, _]) (vs := encPl (y.k, sy, ty, y.seg, y.at_)) rfl rfl (encPl_one _) (by simp [encPl]) fun w10 b10 f10 z10 => ?_
    have b10' : blk w10 (hsz w8) = some (.cells [.int .i64 y.k, sy.v, .string ty, .int .u64 (y.seg : Int), .int .u64 (y.at_ : Int)].toArray 37 (0, 0)) := b10
    have b10x := f10.some (by simp) b8x
    by_cases he : y.seg = x.seg
    · have he' : ((y.seg : Nat) : Int) = (x.seg : Int) := by rw [he]
      (repeat refine gg ?_)
      refine hJ _ hlt ⟨f78.trans' f10, fun z hz => ?_⟩
      rw [List.take_add_one, hy] at hz
      rcases List.mem_append.1 hz with hz | hz
      · exact hsame z hz
      · simp at hz; subst hz; exact he
    · have he' : ¬ ((y.seg : Nat) : Int) = (x.seg : Int) := by omega
      (repeat refine gg ?_)
      exact hR _ ((f07.trans' f78).trans' f10)
  · have hall : ∀ y ∈ ps.drop i, y.seg = x.seg := fun y hy => by
      refine hsame y ?_
      rw [List.take_of_length_le (by rw [List.length_drop] at hlt ⊢; omega)]
      exact hy
    have hlast : x.seg = l.seg := by
      have hne : ps ≠ [] := fun e => by rw [e] at hx; simp at hx
      obtain ⟨z, hz⟩ : ∃ z, ps.getLast? = some z := ⟨_, List.getLast?_eq_some_getLast hne⟩
      have h1 := M.chain.tail z hz
      have hil : i < ps.length := (List.getElem?_eq_some_iff.1 hx).1
      have h2 : z ∈ ps.drop i := by
        rw [List.getLast?_eq_getElem?] at hz
        refine List.mem_of_getElem? (i := ps.length - 1 - i) ?_
        rw [List.getElem?_drop, show i + (ps.length - 1 - i) = ps.length - 1 by omega]
        exact hz
      rw [← h1, hall z h2]
    obtain ⟨o1, o2, o3⟩ := full_cut M.full hx hlast hall
    have hlen2 := M.full.lg.at_
    have hxat : x.at_ ≤ 1000000 := by
      have := o2.lg.at_
      simp only at this
      omega
    have hsgx := okS_iff.1 o2.lg.seg
    simp only at hsgx
    rw [hmost] at o1 o2 o3
    have h8 := h7.fr0 f78
    obtain ⟨A8, z8, zlt8, zA8, back8⟩ := At.zoom3 h8 (Fr.refl _ _) 2 rfl
    have f08 := f07.trans' f78
    have b8x := f78.some (by simp) b7'
    have hsm3 := M.full.small
    (repeat refine gg ?_)
    refine sg_Open (tabS_re hT f08 (out zA8)) z8 M.full.inv (by omega) x.seg x.at_ (by omega) (by omega) size fun w11 o ho z11 => ?_
    rw [o1] at ho ⊢
    obtain ⟨p2, rfl⟩ : ∃ p2, o = some (p2, ⟨x.seg, x.at_, size, x.seg + 1, false⟩) := by
      cases o with
      | none => cases ho
      | some y => obtain ⟨p2, l2⟩ := y; simp at ho; exact ⟨p2, by rw [ho]⟩
    have h11 := (back8 _ _ z11).swap.tail
    have f7w : Fr A w7 w11 := h11.frame
    have b11x := f7w.some nx b7'
    have hsm4 := o2.small
    have hinv4 := o2.inv
    generalize (lgOpen s x.seg x.at_ size).1 = s2 at *
    have nil := ptr_nilS (d := p2)
    unfold valL
    -- what stands ahead is read
    obtain ⟨A9, y9, ⟨B9, hB9, hd9⟩, ylt9, yA9, yback9⟩ := At.zoomT h11 (Fr.refl _ _)
    have f011 : Fr [] w w11 := f07.trans f7w hAw
    have sl11 : Slc encPl 5 w11 pv cs B9 := hB9
    obtain ⟨pv3, ep3, _⟩ := sl11.pre (n := i) hix
    have pa3 : ∀ w', Fr A9 w11 w' → Arr encPl 5 w' pv3 (cs.take i) := fun w' fr => by
      obtain ⟨v', e', a'⟩ := (sl11.fr fr hd9).pre (n := i) hix
      rw [ep3] at e'
      cases e'
      exact a'
    have f211 : Fr [] w2 w11 := (f3.trans' f37).trans f7w zA
    have hpl11 : ∀ w', Fr A9 w11 w' → Pls w' (cs.take i) (ps.take i) := fun w' fr => (M.pls.take i).fr (f211.trans fr (out2 yA9))
    (repeat refine gg ?_)
    refine sg_there (tabS_re hT f011 (out yA9)) (At.unwrap y9) hinv4 (by omega) pa3 hpl11 o2.held (by rw [List.length_take]; omega) fun w12 y12 => ?_
    have h12 := yback9 _ [_] (At.wrap y12)
    have b12x := h12.frame.some nx b7'
    (repeat refine gg ?_)
    -- nothing stands there
    obtain ⟨A12, y12', _, ylt12, yA12, yback12⟩ := At.zoomT h12 (Fr.refl _ _)
    have f012 : Fr [] w w12 := f07.trans h12.frame hAw
    refine sg_Read (tabS_re hT f012 (out yA12)) (At.unwrap y12') hinv4 (by omega) x.seg x.at_ (by omega) (by omega) fun w13 nv G y13 s13 g13 f13 => ?_
    rw [o3]
    have h13 := yback12 _ [_] (At.wrap y13)
    (repeat refine gg ?_)
    refine box_step (n := 3) (zs := [_, _, _]) (vs := encRc ((zeroR.kind : Int), nv, txB zeroR.text)) rfl rfl (encRc_one _) (by simp [encRc]) fun w15 b15 f15 z15 => ?_
    have h15 := h13.fr0 f15
    have f015 : Fr [] w w15 := f07.trans h15.frame hAw
    have e15 := loadn_all' (h15.frame.some nr b7w) (encRc_len _)
    (repeat refine gg ?_)
    -- it goes on
    obtain ⟨A15, y15, _, ylt15, yA15, yback15⟩ := At.zoomT h13 f15
    obtain ⟨x3, xk, xn, xt, xe, ⟨m', xm, xf⟩, xw⟩ := full_append o2 (by omega) (by omega) (by omega) hrt' hsm
    refine sg_Append (tabS_re hT f015 (out yA15)) (At.unwrap y15) hinv4 (by omega) (by omega) o2.lg (by omega) k t (hns.fr f015 (by simp)) hsm fun w16 y16 => ?_
    have hinv5 := xf.inv
    have hheld5 := xf.held
    have hsm5 := xf.small
    rw [xe]
    generalize (lgAppend s2 ⟨x.seg, x.at_, size, x.seg + 1, false⟩ k ns t.data.toList).1 = s3 at *
    generalize (lgAppend s2 ⟨x.seg, x.at_, size, x.seg + 1, false⟩ k ns t.data.toList).2.1 = l3 at *
    have h16 := yback15 _ [_] (At.wrap y16)
    have f016 : Fr [] w w16 := f07.trans h16.frame hAw
    have h16d := h16.fr0 (Fr.drew [] w16)
    have e16 := loadn_all' (h16d.frame.some nr b7w) (encRc_len _)
    obtain ⟨A17, y17, ⟨B17, hB17, hd17⟩, ylt17, yA17, yback17⟩ := At.zoomT h16 (Fr.drew [] w16)
    have sl17 : Slc encPl 5 w16.drew pv cs B17 := hB17
    obtain ⟨a3, es3, cs3⟩ := Slc.upto3 sl17 encPl_len (n := i) hix
    (repeat (first | refine gg ?_ | (apply BND_build (encPl (k, sv, t, x3.seg, x3.at_)); exact rfl)))
    refine newone_step (enc := encPl) (x := (k, sv, t, x3.seg, x3.at_)) encPl_len rfl fun t9 w17 s9 f9 z9 => ?_
    (repeat refine gg ?_)
    refine APPEND_full (xs := cs.take i) (ys := [(k, sv, t, x3.seg, x3.at_)]) (by rw [List.length_take]; omega) (cs3 w17 fun b hb => f9.keep b (sl17.lt b hb) (by simp)) (s9.loads encPl_len) encPl_len rfl (by rw [List.length_take]; simp; omega) (by rw [List.length_take]; simp; omega) (by simp) fun v18 w18 F18 s18 f18 g18 => ?_
    obtain ⟨A18, y18, _, ylt18, yA18, yback18⟩ := At.zoomT h16d (f9.trans' f18)
    have hz16 : hsz w16.drew = hsz w16 := rfl
    have f018 : Fr [] w w18 := (f016.trans' (Fr.drew [] w16)).trans' (f9.trans' f18)
    have hg9 := f9.grow
    have pls3 : Pls w2 ((cs.take i) ++ [(k, sv, t, x3.seg, x3.at_)]) (ps.take i ++ [x3]) := by
      have := pls_snoc (sv := sv) (t := t) (x := x3) (M.pls.take i) (by rw [xt]) (by rw [xn]; exact hns.fr f02 (by simp))
      rw [xk] at this
      exact this
    have f218 : Fr [] w2 w18 := (((f3.trans' f37).trans h16.frame zA).trans' (Fr.drew [] w16)).trans' (f9.trans' f18)
    (repeat refine gg ?_)
    refine sg_there (tabS_re hT f018 (out yA18)) (At.unwrap y18) hinv5 (by omega) (cs := (cs.take i) ++ [(k, sv, t, x3.seg, x3.at_)]) (fun w' fr => (s18.fr fr fun b hb hb' => by have := g18 b hb; have := ylt18 b hb'; omega).arr) (fun w' fr => pls3.fr (f218.trans fr (out2 yA18))) hheld5 (by rw [List.length_append, List.length_take]; simp; omega) fun w19 y19 => ?_
    have h19 := yback18 _ [_] (At.wrap y19)
    have b19x := h19.frame.some nx b7'
    have fin := hR w19 (f07.trans h19.frame hAw)
    rcases xw.way with ⟨v1, v2, _⟩ | ⟨v1, v2, _⟩
    · simp only at v1 v2
      have v1' : ((x3.seg : Nat) : Int) = (x.seg : Int) := by rw [v1]
      have v2' : ((x3.at_ : Nat) : Int) = (x.at_ : Int) := by rw [v2]
      (repeat refine gg ?_)
      exact fin
    · simp only at v1 v2
      have v1' : ¬ ((x3.seg : Nat) : Int) = (x.seg : Int) := by omega
      have v3' : ((x3.seg : Nat) : Int) = ((x.seg + 1 : Nat) : Int) := by rw [v1]
      have v2' : ((x3.at_ : Nat) : Int) = 0 := by rw [v2]; rfl
      have hinc := inc_u (x := x.seg) (by omega)
      (repeat refine gg ?_)
      exact fin
end
end Go.Proofs.YtofllgbdphakiaaDoor
end

section
namespace Go.Proofs.YtofllgbdphakiaaDoor
open Go.Den Go.Rec Go.RowKit
theorem sg_CutI {w : World} {R : Value → World → Prop} (hT : Tab w) {seg size cut k : Int} (hs : (Lit.int .u64 seg).wf = true) {lv : Value} {rs : List (Int × SV × ByteArray)} (hin : RcsIn w lv rs) {sv : SV} {t : ByteArray} {ns : List Nat} (hns : Arr encU 1 w sv.v ns) (hsm : ∀ n ∈ ns, n < 18446744073709551616) (hR : ∀ w', Fr [] w w' → R (.bool true) w') :
    CALL PR F_tumbrellaw15_SeglogCut [.int .u64 seg, .int .i64 size, lv, .int .i64 cut, .agg (encRc (k, sv, t)).toArray] w R := by
  obtain ⟨n, rfl, hn⟩ := u64_nat hs
  exact sg_Cut hT n hn size hin cut k sv t hns hsm hR
end Go.Proofs.YtofllgbdphakiaaDoor
end
