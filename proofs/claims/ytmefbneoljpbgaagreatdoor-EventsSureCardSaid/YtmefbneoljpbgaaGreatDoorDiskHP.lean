
/- A disk in memory; its directory, what may be done, names. No condition but sizes. -/
import Derived.Test.YtmefbneoljpbgaaGreatDoorDiskPlain
import Derived.Test.YtmefbneoljpbgaaGreatDoorMa
namespace Go.Proofs.YtmefbneoljpbgaaGreatDoor
open Go.Den Go.Disk

def encB (x : UInt8) : List Value := [.int .u8 (x.toNat : Int)]
theorem encB_len (x : UInt8) : (encB x).length = 1 := rfl
theorem encB_one (x : UInt8) : ∀ u ∈ encB x, u.oneCell' = true := by intro u hu; simp [encB] at hu; subst hu; rfl
def encM (m : Nat) : List Value := [.map (some m)]
theorem encM_len (x : Nat) : (encM x).length = 1 := rfl
theorem encM_one (x : Nat) : ∀ u ∈ encM x, u.oneCell' = true := by intro u hu; simp [encM] at hu; subst hu; rfl
def encN (s : ByteArray) : List Value := [.string s]
theorem encN_len (r : ByteArray) : (encN r).length = 1 := rfl
theorem encN_one (r : ByteArray) : ∀ u ∈ encN r, u.oneCell' = true := by intro u hu; simp [encN] at hu; subst hu; rfl
def ptrTo (b : Nat) : Value := .pointer (some ⟨b, 0, none⟩)
def dirL (fb : List Nat) (l : Dir) : List (ByteArray × Value) := l.map fun x => (x.1, ptrTo (fb.getD x.2 0))
def dirHP (fb : List Nat) (m : Nat) (l : Dir) : HP where
  p w F := (∃ es ck L, blk w m = some (.map es ck) ∧ MapB (fun s : ByteArray => Value.string s) es ck L ∧ L.Perm (dirL fb l)) ∧ F = [m]
  lt := by rintro w F ⟨⟨es, ck, L, h, _⟩, rfl⟩ c hc; simp at hc; subst hc; exact blk_lt h
  st := by rintro w w' F ⟨⟨es, ck, L, h, h2⟩, rfl⟩ hk; exact ⟨⟨es, ck, L, by rw [hk m (by simp), h], h2⟩, rfl⟩
def fileHP (b : Nat) (x : Fl) : HP := ex fun bv : Value => stars [pts b [bv, .int .i64 (x.sure : Int)], slc encB 1 bv x.b]
def dirHPs (fb ms : List Nat) (ds : List Dir) : List HP := List.zipWith (dirHP fb) ms ds
def fileHPs (fb : List Nat) (fs : List Fl) : List HP := List.zipWith fileHP fb fs
def dkC (s : Dk) (m0 : Nat) (sv : Value) : List Value := [.int .i64 s.room, .map (some m0), sv, .int .i64 s.burn, .bool s.gone]
def dkL (d : Nat) (s : Dk) (sv : Value) (ms fb : List Nat) : List HP :=
  [pure_ (ms.length = s.dirs.length ∧ fb.length = s.files.length), pts d (dkC s (ms.headD 0) sv), slc encM 1 sv ms.tail, stars (dirHPs fb ms s.dirs), stars (fileHPs fb s.files)]
def diskHP (d : Nat) (s : Dk) : HP := ex fun x : Value × List Nat × List Nat => stars (dkL d s x.1 x.2.1 x.2.2)

section
variable {w0 w w' : World} {F0 : List Nat} {d : Nat} {s : Dk}
theorem dk_open (h : At w0 F0 (diskHP d s) w) : ∃ sv ms fb, At w0 F0 (stars (dkL d s sv ms fb)) w ∧ ms.length = s.dirs.length ∧ fb.length = s.files.length := by
  obtain ⟨F, ⟨⟨sv, ms, fb⟩, h1⟩, h2, h3⟩ := h
  have ha : At w0 F0 (stars (dkL d s sv ms fb)) w := ⟨F, h1, h2, h3⟩
  obtain ⟨A, ⟨hp, _⟩, _⟩ := ha.get 0 rfl
  exact ⟨sv, ms, fb, ha, hp⟩
theorem dk_shut {sv : Value} {ms fb : List Nat} (h : At w0 F0 (stars (dkL d s sv ms fb)) w) : At w0 F0 (diskHP d s) w := by
  obtain ⟨F, h1, h2, h3⟩ := h
  exact ⟨F, ⟨(sv, ms, fb), h1⟩, h2, h3⟩
/-- the i-th directory. -/
theorem dk_dir {sv : Value} {ms fb : List Nat} (h : At w0 F0 (stars (dkL d s sv ms fb)) w) {i m : Nat} {l : Dir} (hm : ms[i]? = some m) (hl : s.dirs[i]? = some l) : ∃ es ck L, blk w m = some (.map es ck) ∧ MapB (fun s : ByteArray => Value.string s) es ck L ∧ L.Perm (dirL fb l) := by
  obtain ⟨A, h1, _⟩ := h.get 3 rfl
  obtain ⟨B, ⟨h2, _⟩, _⟩ := stars_get (dirHPs fb ms s.dirs) i (dirHP fb m l) (by unfold dirHPs; rw [List.getElem?_zipWith, hm, hl]) h1
  exact h2
/-- the f-th file. -/
theorem dk_file {sv : Value} {ms fb : List Nat} (h : At w0 F0 (stars (dkL d s sv ms fb)) w) {f b : Nat} {x : Fl} (hb : fb[f]? = some b) (hx : s.files[f]? = some x) : ∃ bv T G, blk w b = some (.cells [bv, .int .i64 (x.sure : Int)].toArray T (0, 0)) ∧ Slc encB 1 w bv x.b G := by
  obtain ⟨A, h1, _⟩ := h.get 4 rfl
  obtain ⟨B, ⟨bv, h2⟩, _⟩ := stars_get (fileHPs fb s.files) f (fileHP b x) (by unfold fileHPs; rw [List.getElem?_zipWith, hb, hx]) h1
  obtain ⟨C, ⟨⟨T, h3⟩, _⟩, _⟩ := stars_get _ 0 _ rfl h2
  obtain ⟨D, h4, _⟩ := stars_get _ 1 _ rfl h2
  exact ⟨bv, T, D, h3, h4⟩
theorem lastL_get {α : Type} {l : List α} {d : α} (h : l ≠ []) : l[l.length - 1]? = some (l.getLastD d) := by
  rw [List.getLastD_eq_getLast?, ← List.getLast?_eq_getElem?]
  cases hl : l.getLast? with
  | none => simp at hl; exact absurd hl h
  | some x => rfl
theorem dk_now_get (hw : s.dirs ≠ []) : s.dirs[s.dirs.length - 1]? = some s.now := lastL_get hw
end

/-! ## A map's entries by their names -/
theorem nodup_perm_map {κ : Type} [DecidableEq κ] {L M : List (κ × Value)} (h : L.Perm M) (hn : (L.map (·.1)).Nodup) : (M.map (·.1)).Nodup := (h.map _).nodup_iff.1 hn
theorem lk_mem {κ : Type} [DecidableEq κ] {L : List (κ × Value)} (hn : (L.map (·.1)).Nodup) {k : κ} {v : Value} : lk L k = some v ↔ (k, v) ∈ L := by
  induction L with
  | nil => simp [lk_nil]
  | cons p L ih =>
    obtain ⟨a, b⟩ := p
    simp only [List.map_cons, List.nodup_cons] at hn
    rw [lk_cons]
    by_cases h : k = a
    · subst h
      simp only [if_true, Option.some.injEq, List.mem_cons, Prod.mk.injEq, true_and]
      constructor
      · exact fun h => .inl h.symm
      · rintro (h | h)
        · exact h.symm
        · exact absurd (List.mem_map.2 ⟨_, h, rfl⟩) hn.1
    · simp only [h, if_false, List.mem_cons, Prod.mk.injEq, false_and, false_or]
      exact ih hn.2
theorem lk_none {κ : Type} [DecidableEq κ] {L : List (κ × Value)} {k : κ} : lk L k = none ↔ ∀ p ∈ L, p.1 ≠ k := by
  induction L with
  | nil => simp [lk_nil]
  | cons p L ih =>
    obtain ⟨a, b⟩ := p
    rw [lk_cons]
    by_cases h : k = a
    · subst h; simp
    · simp only [h, if_false, List.mem_cons, forall_eq_or_imp]
      rw [ih]
      exact ⟨fun hh => ⟨fun e => h e.symm, hh⟩, fun hh => hh.2⟩
theorem lk_dir {fb : List Nat} {l : Dir} {L : List (ByteArray × Value)} (hr : riseD l) (hp : L.Perm (dirL fb l)) (hn : (L.map (·.1)).Nodup) (n : ByteArray) : lk L n = (findD l n).map fun f => ptrTo (fb.getD f 0) := by
  cases hf : findD l n with
  | none =>
    rw [Option.map_none, lk_none]
    intro p hpm
    obtain ⟨x, hx, rfl⟩ := List.mem_map.1 (hp.mem_iff.1 hpm)
    exact findD_none.1 hf x hx
  | some f =>
    rw [Option.map_some, lk_mem hn, hp.mem_iff]
    exact List.mem_map.2 ⟨(n, f), findD_mem hf, rfl⟩
set_option linter.unusedSimpArgs false
set_option linter.unusedVariables false
set_option maxRecDepth 20000
set_option maxHeartbeats 4000000
attribute [local congr] BND_cg COND_cg GEF_cg
attribute [local irreducible] capl slicea load1 loadn iaddr iaddra faddr storev newslice binv lookv mupd mdel mlenv mentry mestore slicev slicev3 slices indexs indexav textv rangev nexts clearv shiftv eqaggv convi buildv pickv lens lenl unv nilchk extractv partn JOIN
section
variable {w0 w : World} {F0 : List Nat} {d : Nat} {s : Dk} {R : Value → World → Prop}
theorem dk_now (h : At w0 F0 (diskHP d s) w) (hw : s.dirs ≠ []) (hn : s.dirs.length < 1000000000) (hR : ∀ sv ms fb m es ck L, At w0 F0 (stars (dkL d s sv ms fb)) w → ms.length = s.dirs.length → fb.length = s.files.length → ms[s.dirs.length - 1]? = some m →
    blk w m = some (.map es ck) → MapB (fun s : ByteArray => Value.string s) es ck L → L.Perm (dirL fb s.now) → R (.map (some m)) w) : CALL PR F_disk_Disk_now [ptrTo d] w R := by
  obtain ⟨sv, ms, fb, hs, hm, hf⟩ := dk_open h
  have hpos : 0 < s.dirs.length := List.length_pos_iff.2 hw
  refine C_disk_Disk_now ?_
  unfold M_disk_Disk_now ptrTo
  obtain ⟨T, c⟩ := hs.cell (i := 1) rfl
  obtain ⟨Fs, ss, _⟩ := hs.slc1 (i := 2) rfl
  have hlt : ms.length - 1 < ms.length := by omega
  have hg := List.getElem?_eq_getElem hlt
  obtain ⟨es, ck, L, b1, b2, b3⟩ := dk_dir hs (i := ms.length - 1) (l := s.now) hg (by rw [hm]; exact dk_now_get hw)
  have tl : ms.tail.length = ms.length - 1 := by simp
  (repeat (first | (apply BND_ld c; exact rfl) | refine BND_step ss.len ?_ | refine stp ?_ | (apply BND_inc; omega) | (apply BND_dec; omega) | refine BND_step (rfl : some _ = some _) ?_ | (apply cyes; first | assumption | omega) | (apply cno; first | assumption | omega) | refine (COND_true _ _).2 ?_ | refine (COND_false _ _).2 ?_ | simp (disch := first | assumption | omega) only [gs1, gs2, decide_true, decide_false, eq_self, beq_self_eq_true, Bool.not_true, Bool.not_false]))
  by_cases h1 : 0 < ms.tail.length
  · have hx : ms.tail[ms.tail.length - 1]? = some ms[ms.length - 1] := by
      rw [List.getElem?_tail, show ms.tail.length - 1 + 1 = ms.length - 1 by omega, hg]
    obtain ⟨bb, oo, ia, _, _, l1⟩ := ss.arr.spot hx rfl .i64
    (repeat (first | (apply BND_ld c; exact rfl) | refine BND_step ia ?_ | (apply BND_step; exact (l1 (w' := w) rfl (j := 0) rfl)) | refine stp ?_ | (apply BND_inc; omega) | (apply BND_dec; omega) | refine BND_step (rfl : some _ = some _) ?_ | (apply cyes; first | assumption | omega) | (apply cno; first | assumption | omega) | refine (COND_true _ _).2 ?_ | refine (COND_false _ _).2 ?_ | simp (disch := first | assumption | omega) only [gs1, gs2, decide_true, decide_false, eq_self, beq_self_eq_true, Bool.not_true, Bool.not_false]))
    exact hR sv ms fb _ es ck L hs hm hf (by rw [← hm]; exact hg) b1 b2 b3
  · (repeat (first | (apply BND_ld c; exact rfl) | refine stp ?_ | (apply BND_inc; omega) | (apply BND_dec; omega) | refine BND_step (rfl : some _ = some _) ?_ | (apply cyes; first | assumption | omega) | (apply cno; first | assumption | omega) | refine (COND_true _ _).2 ?_ | refine (COND_false _ _).2 ?_ | simp (disch := first | assumption | omega) only [gs1, gs2, decide_true, decide_false, eq_self, beq_self_eq_true, Bool.not_true, Bool.not_false]))
    have e : ms.headD 0 = ms[ms.length - 1] := by
      cases ms with
      | nil => simp at hlt
      | cons a r =>
        have : r = [] := List.eq_nil_of_length_eq_zero (by simpa using h1)
        subst this; rfl
    rw [e]
    exact hR sv ms fb _ es ck L hs hm hf (by rw [← hm]; exact hg) b1 b2 b3
theorem At.mono {P Q : HP} {w0 w : World} {F0 : List Nat} (h : At w0 F0 P w) (hpq : ∀ F, P.p w F → Q.p w F) : At w0 F0 Q w := by
  obtain ⟨F, h1, h2, h3⟩ := h
  exact ⟨F, hpq F h1, h2, h3⟩
theorem dk_can (h : At w0 F0 (diskHP d s) w) (e : Int) (hb : -1 ≤ s.burn ∧ s.burn ≤ 9223372036854775807) (hR : ∀ w', At w0 F0 (diskHP d (can s e).1) w' → R (.int .i64 (can s e).2) w') : CALL PR F_disk_Disk_can [ptrTo d, .int .i64 e] w R := by
  obtain ⟨sv, ms, fb, hs, hm, hf⟩ := dk_open h
  refine C_disk_Disk_can ?_
  unfold M_disk_Disk_can ptrTo
  unfold can at hR
  obtain ⟨T, c⟩ := hs.cell (i := 1) rfl
  (repeat (first | (apply BND_ld c; exact rfl) | refine stp ?_ | (apply BND_inc; omega) | (apply BND_dec; omega) | refine BND_step (rfl : some _ = some _) ?_ | (apply cyes; first | assumption | omega) | (apply cno; first | assumption | omega) | refine (COND_true _ _).2 ?_ | refine (COND_false _ _).2 ?_ | simp (disch := first | assumption | omega) only [gs1, gs2, decide_true, decide_false, eq_self, beq_self_eq_true, Bool.not_true, Bool.not_false]))
  cases hg : s.gone with
  | true =>
    rw [hg] at hR
    simp only [if_true] at hR
    (repeat (first | refine stp ?_ | (apply BND_inc; omega) | (apply BND_dec; omega) | refine BND_step (rfl : some _ = some _) ?_ | (apply cyes; first | assumption | omega) | (apply cno; first | assumption | omega) | refine (COND_true _ _).2 ?_ | refine (COND_false _ _).2 ?_ | simp (disch := first | assumption | omega) only [gs1, gs2, decide_true, decide_false, eq_self, beq_self_eq_true, Bool.not_true, Bool.not_false]))
    exact hR w h
  | false =>
    rw [hg] at hR
    simp only [Bool.false_eq_true, if_false] at hR
    (repeat (first | (apply BND_ld c; exact rfl) | refine stp ?_ | (apply BND_inc; omega) | (apply BND_dec; omega) | refine BND_step (rfl : some _ = some _) ?_ | (apply cyes; first | assumption | omega) | (apply cno; first | assumption | omega) | refine (COND_true _ _).2 ?_ | refine (COND_false _ _).2 ?_ | simp (disch := first | assumption | omega) only [gs1, gs2, decide_true, decide_false, eq_self, beq_self_eq_true, Bool.not_true, Bool.not_false]))
    by_cases he : e = 0
    · subst he
      simp only [ne_eq, not_true_eq_false, if_false] at hR
      (repeat (first | (apply BND_ld c; exact rfl) | refine stp ?_ | (apply BND_inc; omega) | (apply BND_dec; omega) | refine BND_step (rfl : some _ = some _) ?_ | (apply cyes; first | assumption | omega) | (apply cno; first | assumption | omega) | refine (COND_true _ _).2 ?_ | refine (COND_false _ _).2 ?_ | simp (disch := first | assumption | omega) only [gs1, gs2, decide_true, decide_false, eq_self, beq_self_eq_true, Bool.not_true, Bool.not_false]))
      by_cases hb0 : s.burn = 0
      · simp only [hb0, if_true] at hR
        (repeat (first | refine stp ?_ | (apply BND_inc; omega) | (apply BND_dec; omega) | refine BND_step (rfl : some _ = some _) ?_ | (apply cyes; first | assumption | omega) | (apply cno; first | assumption | omega) | refine (COND_true _ _).2 ?_ | refine (COND_false _ _).2 ?_ | simp (disch := first | assumption | omega) only [gs1, gs2, decide_true, decide_false, eq_self, beq_self_eq_true, Bool.not_true, Bool.not_false]))
        refine hs.store (i := 1) rfl ⟨rfl, rfl⟩ (by simp [dkC]) fun w1 h1 f1 => ?_
        exact hR w1 (dk_shut (s := { s with burn := 0, gone := true }) (sv := sv) (ms := ms) (fb := fb) (by rw [← hb0]; exact h1))
      · simp only [hb0, if_false] at hR
        (repeat (first | (apply BND_ld c; exact rfl) | refine stp ?_ | (apply BND_inc; omega) | (apply BND_dec; omega) | refine BND_step (rfl : some _ = some _) ?_ | (apply cyes; first | assumption | omega) | (apply cno; first | assumption | omega) | refine (COND_true _ _).2 ?_ | refine (COND_false _ _).2 ?_ | simp (disch := first | assumption | omega) only [gs1, gs2, decide_true, decide_false, eq_self, beq_self_eq_true, Bool.not_true, Bool.not_false]))
        by_cases hb1 : 0 < s.burn
        · simp only [hb1, if_true] at hR
          refine join_w (fun w' => At w0 F0 (diskHP d { s with burn := s.burn - 1 }) w') (fun K hK => ?_) (fun w' hw' => hR w' (by rw [hg] at hw'; exact hw'))
          have esub : binv .int .sub (.int .i64 s.burn) (.int .i64 1) = some (.int .i64 (s.burn - 1)) := by rw [binv_sub, wrap_i64 (by omega) (by omega)]
          (repeat (first | (apply BND_ld c; exact rfl) | refine BND_step esub ?_ | refine stp ?_ | (apply BND_inc; omega) | (apply BND_dec; omega) | refine BND_step (rfl : some _ = some _) ?_ | (apply cyes; first | assumption | omega) | (apply cno; first | assumption | omega) | refine (COND_true _ _).2 ?_ | refine (COND_false _ _).2 ?_ | simp (disch := first | assumption | omega) only [gs1, gs2, decide_true, decide_false, eq_self, beq_self_eq_true, Bool.not_true, Bool.not_false]))
          refine hs.store (i := 1) rfl ⟨rfl, rfl⟩ (by simp [dkC]) fun w1 h1 f1 => hK w1 ?_
          exact dk_shut (s := { s with burn := s.burn - 1 }) (sv := sv) (ms := ms) (fb := fb) h1
        · simp only [hb1, if_false] at hR
          refine join_w (fun w' => At w0 F0 (diskHP d s) w') (fun K hK => ?_) (fun w' hw' => hR w' hw')
          (repeat (first | refine stp ?_ | (apply BND_inc; omega) | (apply BND_dec; omega) | refine BND_step (rfl : some _ = some _) ?_ | (apply cyes; first | assumption | omega) | (apply cno; first | assumption | omega) | refine (COND_true _ _).2 ?_ | refine (COND_false _ _).2 ?_ | simp (disch := first | assumption | omega) only [gs1, gs2, decide_true, decide_false, eq_self, beq_self_eq_true, Bool.not_true, Bool.not_false]))
          exact hK w h
    · simp only [ne_eq, he, not_false_eq_true, if_true] at hR
      (repeat (first | refine stp ?_ | (apply BND_inc; omega) | (apply BND_dec; omega) | refine BND_step (rfl : some _ = some _) ?_ | (apply cyes; first | assumption | omega) | (apply cno; first | assumption | omega) | refine (COND_true _ _).2 ?_ | refine (COND_false _ _).2 ?_ | simp (disch := first | assumption | omega) only [gs1, gs2, decide_true, decide_false, eq_self, beq_self_eq_true, Bool.not_true, Bool.not_false]))
      exact hR w h
theorem dk_lookup {fb : List Nat} {m : Nat} {es : Array MapEntry} {ck : Nat} {L : List (ByteArray × Value)} {l : Dir} (b1 : blk w m = some (.map es ck)) (b2 : MapB (fun s : ByteArray => Value.string s) es ck L) (b3 : L.Perm (dirL fb l)) (hr : riseD l) (n : ByteArray) :
    lookv .string (.pointer none) false w (.map (some m)) (.string n) = some (match findD l n with | some f => ptrTo (fb.getD f 0) | none => .pointer none) := by
  have := lookv_L1 keyStr b1 b2.l (.pointer none) n
  rw [lk_dir hr b3 b2.l.once] at this
  rw [this]
  cases findD l n <;> rfl
theorem dk_there (h : At w0 F0 (diskHP d s) w) (hw : s.Wf) (hn : s.dirs.length < 1000000000) (n : ByteArray) (hR : R (.int .i64 (there s n)) w) : CALL PR F_disk_Disk_there [ptrTo d, .string n] w R := by
  refine C_disk_Disk_there ?_
  unfold M_disk_Disk_there
  refine dk_now h hw.ne hn fun sv ms fb m es ck L hs hm hf hmm b1 b2 b3 => ?_
  have hr : riseD s.now := hw.rise _ (List.mem_of_getElem? (dk_now_get hw.ne))
  have lk1 := dk_lookup b1 b2 b3 hr n
  unfold there Dk.find at hR
  cases hfd : findD s.now n with
  | none =>
    rw [hfd] at lk1 hR
    (repeat (first | refine BND_step lk1 ?_ | refine stp ?_ | (apply BND_inc; omega) | (apply BND_dec; omega) | refine BND_step (rfl : some _ = some _) ?_ | (apply cyes; first | assumption | omega) | (apply cno; first | assumption | omega) | refine (COND_true _ _).2 ?_ | refine (COND_false _ _).2 ?_ | simp (disch := first | assumption | omega) only [gs1, gs2, decide_true, decide_false, eq_self, beq_self_eq_true, Bool.not_true, Bool.not_false]))
    exact hR
  | some f =>
    rw [hfd] at lk1 hR
    simp only [ptrTo] at lk1
    (repeat (first | refine BND_step lk1 ?_ | refine stp ?_ | (apply BND_inc; omega) | (apply BND_dec; omega) | refine BND_step (rfl : some _ = some _) ?_ | (apply cyes; first | assumption | omega) | (apply cno; first | assumption | omega) | refine (COND_true _ _).2 ?_ | refine (COND_false _ _).2 ?_ | simp (disch := first | assumption | omega) only [gs1, gs2, decide_true, decide_false, eq_self, beq_self_eq_true, Bool.not_true, Bool.not_false]))
    exact hR
end
end Go.Proofs.YtmefbneoljpbgaaGreatDoor
