/- The document's disk in memory. No condition. The document's disk: directories. No condition. The document's disk: Create, Rename, Delete, DirSync. No condition but sizes. The document's disk: files. No condition but sizes. The document's disk: Held, Append, Cut. No condition but sizes. The document's numbers as bytes, walked. No condition but sizes. Where up to 32 bits, one behind the other, are turned, a sum tells so. No condition. Bytes compared. No condition but sizes. The document's sums, walked. No condition but sizes. The document's frames, walked. No condition but sizes. The document's records, walked: which may be, their bytes, and back. Conditions: numbers are of 64 bits; sizes. A root by the document, walked: written and read. Conditions: sizes. Roots compared; what the laws of a root ask first, walked. No condition. The document's disk: Crash; its acts. No condition but sizes. A disk: is the power gone? No condition. A disk: a fuse. No condition. Names compared. No condition but sizes. The law of a root, act by act, walked. Conditions: sizes. How acts upon a root that came in read, with their weights. Conditions: sizes. -/
import Derived.Test.YtofllgbdphakiaaGreatGi
import Derived.Test.YtofllgbdphakiaaGreatGh
import Derived.Test.YtofllgbdphakiaaGreatMa
set_option linter.unusedVariables false
set_option linter.unusedSimpArgs false
section
namespace Go.Proofs.YtofllgbdphakiaaGreat
open Go.Den Go.Disk
def encE (x : ByteArray × Nat) : List Value := [.string x.1, .int .i64 (x.2 : Int)]
theorem encE_len (x : ByteArray × Nat) : (encE x).length = 2 := rfl
theorem encE_one (x : ByteArray × Nat) : ∀ u ∈ encE x, u.oneCell' = true := by intro u hu; simp [encE] at hu; rcases hu with rfl | rfl <;> rfl
def encG (x : SV × Nat) : List Value := [x.1.v, .int .i64 (x.2 : Int)]
theorem encG_len (x : SV × Nat) : (encG x).length = 2 := rfl
theorem encG_one (x : SV × Nat) : ∀ u ∈ encG x, u.oneCell' = true := by intro u hu; simp [encG] at hu; rcases hu with rfl | rfl <;> rfl
def Ents (w : World) (es : List SV) (ds : List Dir) (F : List Nat) : Prop := es.length = ds.length ∧ ∀ (i : Nat) (l : Dir), ds[i]? = some l → ∃ (e : SV) (G : List Nat), es[i]? = some e ∧ Slc encE 2 w e.v l G ∧ ∀ b ∈ G, b ∈ F
def Fils (w : World) (fc : List (SV × Nat)) (fs : List Fl) (F : List Nat) : Prop := fc.length = fs.length ∧ ∀ (i : Nat) (x : Fl), fs[i]? = some x → ∃ (v : SV) (G : List Nat), fc[i]? = some (v, x.sure) ∧ Slc encB 1 w v.v x.b G ∧ ∀ b ∈ G, b ∈ F
theorem Ents.st {w w' : World} {es : List SV} {ds : List Dir} {F : List Nat} (h : Ents w es ds F) (hk : ∀ b ∈ F, blk w' b = blk w b) : Ents w' es ds F :=
  ⟨h.1, fun i l hl => by obtain ⟨e, G, h1, h2, h3⟩ := h.2 i l hl; exact ⟨e, G, h1, h2.congr fun b hb => hk b (h3 b hb), h3⟩⟩
theorem Fils.st {w w' : World} {fc : List (SV × Nat)} {fs : List Fl} {F : List Nat} (h : Fils w fc fs F) (hk : ∀ b ∈ F, blk w' b = blk w b) : Fils w' fc fs F :=
  ⟨h.1, fun i l hl => by obtain ⟨e, G, h1, h2, h3⟩ := h.2 i l hl; exact ⟨e, G, h1, h2.congr fun b hb => hk b (h3 b hb), h3⟩⟩
theorem Ents.sub {w : World} {es : List SV} {ds : List Dir} {F F' : List Nat} (h : Ents w es ds F) (hk : ∀ b ∈ F, b ∈ F') : Ents w es ds F' :=
  ⟨h.1, fun i l hl => by obtain ⟨e, G, h1, h2, h3⟩ := h.2 i l hl; exact ⟨e, G, h1, h2, fun b hb => hk b (h3 b hb)⟩⟩
theorem Fils.sub {w : World} {fc : List (SV × Nat)} {fs : List Fl} {F F' : List Nat} (h : Fils w fc fs F) (hk : ∀ b ∈ F, b ∈ F') : Fils w fc fs F' :=
  ⟨h.1, fun i l hl => by obtain ⟨e, G, h1, h2, h3⟩ := h.2 i l hl; exact ⟨e, G, h1, h2, fun b hb => hk b (h3 b hb)⟩⟩
theorem Ents.snoc {w : World} {es : List SV} {ds : List Dir} {F G : List Nat} {e : SV} {l : Dir} (h : Ents w es ds F) (s : Slc encE 2 w e.v l G) (hG : ∀ b ∈ G, b ∈ F) : Ents w (es ++ [e]) (ds ++ [l]) F := by
  obtain ⟨h1, h2⟩ := h
  refine ⟨by simp [h1], fun i m hm => ?_⟩
  by_cases hi : i < ds.length
  · rw [List.getElem?_append_left hi] at hm
    obtain ⟨e', G', h3, h4, h5⟩ := h2 i m hm
    exact ⟨e', G', by rw [List.getElem?_append_left (by omega)]; exact h3, h4, h5⟩
  · have : i = ds.length := by have := (List.getElem?_eq_some_iff.1 hm).1; simp at this; omega
    subst this
    simp at hm; subst hm
    exact ⟨e, G, by rw [List.getElem?_append_right (by omega)]; simp [h1], s, hG⟩
theorem Ents.one {w : World} {F G : List Nat} {e : SV} {l : Dir} (s : Slc encE 2 w e.v l G) (hG : ∀ b ∈ G, b ∈ F) : Ents w [e] [l] F := by
  refine ⟨rfl, fun i m hm => ?_⟩
  cases i with
  | zero => simp at hm; subst hm; exact ⟨e, G, rfl, s, hG⟩
  | succ i => simp at hm
theorem Fils.snoc {w : World} {fc : List (SV × Nat)} {fs : List Fl} {F G : List Nat} {v : SV} {x : Fl} (h : Fils w fc fs F) (s : Slc encB 1 w v.v x.b G) (hG : ∀ b ∈ G, b ∈ F) : Fils w (fc ++ [(v, x.sure)]) (fs ++ [x]) F := by
  obtain ⟨h1, h2⟩ := h
  refine ⟨by simp [h1], fun i m hm => ?_⟩
  by_cases hi : i < fs.length
  · rw [List.getElem?_append_left hi] at hm
    obtain ⟨e', G', h3, h4, h5⟩ := h2 i m hm
    exact ⟨e', G', by rw [List.getElem?_append_left (by omega)]; exact h3, h4, h5⟩
  · have : i = fs.length := by have := (List.getElem?_eq_some_iff.1 hm).1; simp at this; omega
    subst this
    simp at hm; subst hm
    exact ⟨v, G, by rw [List.getElem?_append_right (by omega)]; simp [h1], s, hG⟩
theorem Fils.set {w : World} {fc : List (SV × Nat)} {fs : List Fl} {F G : List Nat} {v : SV} {x : Fl} {f : Nat} (h : Fils w fc fs F) (s : Slc encB 1 w v.v x.b G) (hG : ∀ b ∈ G, b ∈ F) : Fils w (fc.set f (v, x.sure)) (fs.set f x) F := by
  obtain ⟨h1, h2⟩ := h
  refine ⟨by simp [h1], fun i m hm => ?_⟩
  by_cases hi : i = f
  · subst hi
    have hl : i < fs.length := by have := (List.getElem?_eq_some_iff.1 hm).1; simpa using this
    rw [List.getElem?_set_self hl] at hm
    cases hm
    exact ⟨v, G, List.getElem?_set_self (by omega), s, hG⟩
  · rw [List.getElem?_set_ne (Ne.symm hi)] at hm
    obtain ⟨e', G', h3, h4, h5⟩ := h2 i m hm
    exact ⟨e', G', by rw [List.getElem?_set_ne (Ne.symm hi)]; exact h3, h4, h5⟩
/-- what is never changed in place. -/
def immHP (fc : List (SV × Nat)) (dv : Value) (es : List SV) (fs : List Fl) (ds : List Dir) : HP where
  p w F := (∀ b ∈ F, b < hsz w) ∧ (∃ G, Slc encV 1 w dv es G ∧ ∀ b ∈ G, b ∈ F) ∧ Ents w es ds F ∧ Fils w fc fs F
  lt := fun h => h.1
  st := by
    rintro w w' F ⟨h1, ⟨G, h2, h3⟩, h4, h5⟩ hk
    refine ⟨fun b hb => ?_, ⟨G, h2.congr fun b hb => hk b (h3 b hb), h3⟩, h4.st hk, h5.st hk⟩
    have := hk b hb
    have hlt := h1 b hb
    refine Nat.lt_of_not_le fun hge => ?_
    have e1 : blk w' b = none := blk_none hge
    rw [e1] at this
    have := Array.getElem?_eq_none_iff.1 (show w.heap[b]? = none from this.symm)
    unfold hsz at hlt
    omega
def rfC (s : Dk) (fv dv : Value) : List Value := [.int .i64 s.room, fv, dv, .int .i64 s.burn, .bool s.gone]
def rfL (d : Nat) (s : Dk) (fv dv : Value) (fc : List (SV × Nat)) (es : List SV) : List HP := [pts d (rfC s fv dv), slc encG 2 fv fc, immHP fc dv es s.files s.dirs]
def rfHP (d : Nat) (s : Dk) : HP := ex fun x : Value × Value × List (SV × Nat) × List SV => stars (rfL d s x.1 x.2.1 x.2.2.1 x.2.2.2)
theorem idxs_at {s : ByteArray} {i : Nat} {x : UInt8} (h : s.data.toList[i]? = some x) : indexs (.string s) (.int .i64 (i : Int)) = some (.int .u8 (x.toNat : Int)) := by
  have hi : i < s.size := by have := (List.getElem?_eq_some_iff.1 h).1; simpa using this
  have e : s[i]? = some x := by
    rw [getElem?_pos s i hi]
    rw [Array.getElem?_toList, Array.getElem?_eq_getElem hi] at h
    exact h
  unfold indexs
  simp [e]
theorem incB {i : Nat} (h : i < 9223372036854775807) : binv .int .add (.int .i64 (i : Int)) (.int .i64 1) = some (.int .i64 ((i + 1 : Nat) : Int)) := by
  rw [binv_add, wrap_i64 (by omega) (by omega)]; congr 2
/-- a name's file's number, or -1. -/
def numOf (o : Option Nat) : Int := match o with | none => -1 | some f => (f : Int)
theorem findD_drop {l : Dir} {n : ByteArray} {i : Nat} {x : ByteArray × Nat} (hx : l[i]? = some x) (h : findD l n = findD (l.drop i) n) : (x.1 = n → findD l n = some x.2) ∧ (x.1 ≠ n → findD l n = findD (l.drop (i + 1)) n) := by
  have hi := (List.getElem?_eq_some_iff.1 hx).1
  have e : l.drop i = x :: l.drop (i + 1) := by rw [List.drop_eq_getElem_cons hi]; congr; exact (List.getElem?_eq_some_iff.1 hx).2
  obtain ⟨k, f⟩ := x
  rw [h, e]
  simp only [findD]
  exact ⟨fun h => by rw [if_pos h], fun h => by rw [if_neg h]⟩
section
variable {w0 w : World} {F0 : List Nat} {d : Nat} {s : Dk}
theorem rf_open (h : At w0 F0 (rfHP d s) w) : ∃ fv dv fc es, At w0 F0 (stars (rfL d s fv dv fc es)) w := by
  obtain ⟨F, ⟨⟨fv, dv, fc, es⟩, h1⟩, h2, h3⟩ := h
  exact ⟨fv, dv, fc, es, F, h1, h2, h3⟩
theorem rf_shut {fv dv : Value} {fc : List (SV × Nat)} {es : List SV} (h : At w0 F0 (stars (rfL d s fv dv fc es)) w) : At w0 F0 (rfHP d s) w := by
  obtain ⟨F, h1, h2, h3⟩ := h
  exact ⟨F, ⟨⟨fv, dv, fc, es⟩, h1⟩, h2, h3⟩
end
set_option linter.unusedSimpArgs false
set_option linter.unusedVariables false
set_option maxRecDepth 20000
set_option maxHeartbeats 4000000
attribute [local congr] BND_cg COND_cg GEF_cg
attribute [local irreducible] capl slicea load1 loadn iaddr iaddra faddr storev newslice binv lookv mupd mdel mlenv mentry mestore slicev slicev3 slices indexs indexav textv rangev nexts clearv shiftv eqaggv convi buildv pickv lens lenl unv nilchk extractv partn JOIN
section
variable {w0 w : World} {F0 : List Nat} {d : Nat} {s : Dk} {fv dv : Value} {fc : List (SV × Nat)} {es : List SV} {R : Value → World → Prop}
theorem rf_now (h : At w0 F0 (stars (rfL d s fv dv fc es)) w) (hne : s.dirs ≠ []) (hn : s.dirs.length < 1000000000) (hR : ∀ e G, es[s.dirs.length - 1]? = some e → Slc encE 2 w.drew e.v s.now G → R e.v w.drew) : CALL PR F_tumbrelref06_Disk_now [ptrTo d] w R := by
  refine C_tumbrelref06_Disk_now ?_
  unfold M_tumbrelref06_Disk_now ptrTo
  obtain ⟨T, c⟩ := h.cell (i := 0) rfl
  obtain ⟨F, ⟨_, ⟨G, sd, _⟩, ⟨hl, hE⟩, _⟩, _⟩ := h.get 2 rfl
  have hpos : 0 < s.dirs.length := List.length_pos_iff.2 hne
  obtain ⟨e, Ge, he, se, _⟩ := hE _ _ (dk_now_get hne)
  have cd : blk w.drew d = some (.cells (rfC s fv dv).toArray T (0, 0)) := c
  have sd' : Slc encV 1 w.drew dv es G := sd.congr fun _ _ => rfl
  obtain ⟨b, o, ia, _, _, l1⟩ := sd'.arr.spot he rfl .i64
  rw [← hl] at ia
  (repeat (first | refine BND_step sd'.len ?_ | refine BND_step (subn_ (n := es.length) (m := 1) (by omega) (by omega)) ?_ | (apply BND_step; exact (l1 (w' := w.drew) rfl (j := 0) rfl)) | refine gg ?_))
  exact hR e Ge he (se.congr fun _ _ => rfl)
theorem rf_find (h : At w0 F0 (rfHP d s) w) (hw : s.Wf) (hn : s.dirs.length < 1000000000) (n : ByteArray) (hR : ∀ w', Fr [] w w' → R (.int .i64 (numOf (s.find n))) w') : CALL PR F_tumbrelref06_Disk_find [ptrTo d, .string n] w R := by
  obtain ⟨fv, dv, fc, es, hs⟩ := rf_open h
  refine C_tumbrelref06_Disk_find ?_
  unfold M_tumbrelref06_Disk_find
  refine rf_now hs hw.ne hn fun e G _ se => ?_
  have h60 := hw.many _ (now_mem hw)
  refine loop_up 0 s.now.length (fun i w' => Fr [] w.drew w' ∧ findD s.now n = findD (s.now.drop i) n) ⟨Fr.refl _ _, rfl⟩ (by omega) ?_
  rintro i w1 - hi ⟨f1, e1⟩ J m hJ
  by_cases hlt : i < s.now.length
  · have hx := List.getElem?_eq_getElem hlt
    generalize s.now[i] = x at hx
    obtain ⟨b, o, ia, _, _, l1⟩ := (se.fr f1 (by simp)).arr.spot hx rfl .i64
    obtain ⟨y, nn⟩ := findD_drop hx e1
    obtain ⟨k, f⟩ := x
    simp only at y nn
    (repeat (first | refine BND_step se.len ?_ | (apply BND_step; exact (l1 (w' := w1) rfl (j := 0) rfl)) | (apply BND_step; exact (l1 (w' := w1) rfl (j := 1) rfl)) | refine gg ?_))
    by_cases hk : k = n
    · (repeat (first | (apply BND_step; exact (l1 (w' := w1) rfl (j := 1) rfl)) | refine gg ?_))
      have := hR w1 ((Fr.drew _ _).trans' f1)
      unfold Dk.find numOf at this
      rw [y hk] at this
      exact this
    · (repeat refine gg ?_)
      exact hJ _ hlt ⟨f1, nn hk⟩
  · (repeat (first | refine BND_step se.len ?_ | refine gg ?_))
    rw [List.drop_eq_nil_of_le (by omega)] at e1
    have := hR w1 ((Fr.drew _ _).trans' f1)
    unfold Dk.find numOf at this
    rw [e1] at this
    exact this
theorem rf_may (n : ByteArray) (hsz_ : n.size ≤ 9223372036854775807) (hR : ∀ w', Fr [] w w' → R (.bool (named n)) w') : CALL PR F_tumbrelref06_may [.string n] w R := by
  refine C_tumbrelref06_may ?_
  unfold M_tumbrelref06_may
  have hl : n.data.toList.length = n.size := Array.length_toList
  unfold named at hR
  refine loop_up 0 n.size (fun i w' => w' = w ∧ (n.data.toList.take i).all okByte = true) ⟨rfl, rfl⟩ (by omega) ?_
  rintro i w1 - hi ⟨rfl, e⟩ J m hJ
  by_cases hlt : i < n.size
  · have hx := List.getElem?_eq_getElem (l := n.data.toList) (i := i) (by omega)
    have hmem := List.getElem_mem (l := n.data.toList) (n := i) (by omega)
    generalize n.data.toList[i] = x at hx hmem
    have no : okByte x = false → R (.bool false) w1 := fun h => by
      have := hR w1 (Fr.refl _ _)
      rwa [show n.data.toList.all okByte = false from List.all_eq_false.2 ⟨x, hmem, by simp [h]⟩, Bool.and_false] at this
    have yes : okByte x = true → J (.int .i64 ((i + 1 : Nat) : Int)) w1 ∧ m (.int .i64 ((i + 1 : Nat) : Int)) w1 < m (.int .i64 (i : Int)) w1 := fun h =>
      hJ w1 hlt ⟨rfl, by rw [List.take_add_one, hx, List.all_append, e]; simp [h]⟩
    have hok : okByte x = true ↔ x.toNat = 46 ∨ (48 ≤ x.toNat ∧ x.toNat ≤ 57) ∨ (97 ≤ x.toNat ∧ x.toNat ≤ 122) := by
      unfold okByte
      simp only [Bool.or_eq_true, Bool.and_eq_true, decide_eq_true_eq, UInt8.le_iff_toNat_le, ← UInt8.toNat_inj]
      simp [or_assoc]
    have einc := incB (i := i) (by omega)
    (repeat (first | refine BND_step (idxs_at hx) ?_ | refine gg ?_))
    by_cases q1 : (x.toNat : Int) = 46
    · (repeat refine gg ?_)
      exact yes (hok.2 (by omega))
    (repeat refine gg ?_)
    by_cases q2 : (48 : Int) ≤ (x.toNat : Int)
    · by_cases q3 : (x.toNat : Int) ≤ 57
      · (repeat refine gg ?_)
        exact yes (hok.2 (by omega))
      · by_cases q4 : (97 : Int) ≤ (x.toNat : Int)
        · by_cases q5 : (x.toNat : Int) ≤ 122
          · (repeat refine gg ?_)
            exact yes (hok.2 (by omega))
          · (repeat refine gg ?_)
            exact no (Bool.eq_false_iff.2 fun h => by have := hok.1 h; omega)
        · (repeat refine gg ?_)
          exact no (Bool.eq_false_iff.2 fun h => by have := hok.1 h; omega)
    · (repeat refine gg ?_)
      exact no (Bool.eq_false_iff.2 fun h => by have := hok.1 h; omega)
  · rw [List.take_of_length_le (by omega)] at e
    have := hR w1 (Fr.refl _ _)
    rw [e, Bool.and_true] at this
    by_cases q1 : 1 ≤ n.size
    · by_cases q2 : n.size ≤ 12
      · (repeat refine gg ?_)
        simpa [q1, q2] using this
      · (repeat refine gg ?_)
        simpa [q1, q2] using this
    · (repeat refine gg ?_)
      simpa [q1] using this
theorem rf_can (h : At w0 F0 (rfHP d s) w) (e : Int) (hb : -1 ≤ s.burn ∧ s.burn ≤ 9223372036854775807) (hR : ∀ w', At w0 F0 (rfHP d (can s e).1) w' → R (.int .i64 (can s e).2) w') : CALL PR F_tumbrelref06_Disk_can [ptrTo d, .int .i64 e] w R := by
  obtain ⟨fv, dv, fc, es, hs⟩ := rf_open h
  refine C_tumbrelref06_Disk_can ?_
  unfold M_tumbrelref06_Disk_can ptrTo
  unfold can at hR
  obtain ⟨T, c⟩ := hs.cell (i := 0) rfl
  (repeat refine gg ?_)
  cases hg : s.gone with
  | true =>
    rw [hg] at hR
    simp only [if_true] at hR
    (repeat refine gg ?_)
    exact hR w h
  | false =>
    rw [hg] at hR
    simp only [Bool.false_eq_true, if_false] at hR
    (repeat refine gg ?_)
    by_cases he : e = 0
    · subst he
      simp only [ne_eq, not_true_eq_false, if_false] at hR
      (repeat refine gg ?_)
      by_cases hb0 : s.burn = 0
      · simp only [hb0, if_true] at hR
        (repeat refine gg ?_)
        refine hs.store (i := 0) rfl ⟨rfl, rfl⟩ (by simp [rfC]) fun w1 h1 f1 => ?_
        exact hR w1 (rf_shut (s := { s with burn := 0, gone := true }) (fv := fv) (dv := dv) (fc := fc) (es := es) (by rw [← hb0]; exact h1))
      · simp only [hb0, if_false] at hR
        (repeat refine gg ?_)
        by_cases hb1 : 0 < s.burn
        · simp only [hb1, if_true] at hR
          (repeat refine gg ?_)
          refine join_w (fun w' => At w0 F0 (rfHP d { s with burn := s.burn - 1 }) w') (fun K hK => ?_) (fun w' hw' => hR w' (by rw [hg] at hw'; exact hw'))
          have esub : binv .int .sub (.int .i64 s.burn) (.int .i64 1) = some (.int .i64 (s.burn - 1)) := by rw [binv_sub, wrap_i64 (by omega) (by omega)]
          (repeat refine gg ?_)
          refine hs.store (i := 0) rfl ⟨rfl, rfl⟩ (by simp [rfC]) fun w1 h1 f1 => hK w1 ?_
          exact rf_shut (s := { s with burn := s.burn - 1 }) (fv := fv) (dv := dv) (fc := fc) (es := es) h1
        · simp only [hb1, if_false] at hR
          (repeat refine gg ?_)
          refine join_w (fun w' => At w0 F0 (rfHP d s) w') (fun K hK => ?_) (fun w' hw' => hR w' hw')
          (repeat refine gg ?_)
          exact hK w h
    · simp only [ne_eq, he, not_false_eq_true, if_true] at hR
      (repeat refine gg ?_)
      exact hR w h
theorem rf_Fuse (h : At w0 F0 (rfHP d s) w) (n : Int) (hR : ∀ w', At w0 F0 (rfHP d (fuse s n)) w' → R (.tuple #[]) w') : CALL PR F_tumbrelref06_Disk_Fuse [ptrTo d, .int .i64 n] w R := by
  obtain ⟨fv, dv, fc, es, hs⟩ := rf_open h
  refine C_tumbrelref06_Disk_Fuse ?_
  unfold M_tumbrelref06_Disk_Fuse ptrTo
  have e : max2v (.int .i64 n) (.int .i64 (-1)) = some (.int .i64 (if n < -1 then -1 else n)) := rfl
  (repeat refine gg ?_)
  refine hs.store (i := 0) rfl ⟨rfl, rfl⟩ (by simp [rfC]) fun w1 h1 f1 => ?_
  exact hR w1 (rf_shut (s := fuse s n) (fv := fv) (dv := dv) (fc := fc) (es := es) h1)
theorem rf_New (room : Int) (hR0 : (room < 16 ∨ 1048576 < room) → R (.tuple #[.pointer none, .int .i64 1]) w)
    (hR : 16 ≤ room ∧ room ≤ 1048576 → ∀ w' d, At w [] (rfHP d (empty room)) w' → R (.tuple #[ptrTo d, .int .i64 0]) w') : CALL PR F_tumbrelref06_New [.int .i64 room] w R := by
  refine C_tumbrelref06_New ?_
  unfold M_tumbrelref06_New
  by_cases h1 : room < 16
  · (repeat refine gg ?_)
    exact hR0 (.inl h1)
  by_cases h2 : 1048576 < room
  · (repeat refine gg ?_)
    exact hR0 (.inr h2)
  (repeat refine gg ?_)
  refine newnil_step encE fun t w1 s1 f1 z1 => ?_
  obtain ⟨e, rfl⟩ := slc_sv s1
  refine newone_step (enc := encV) (x := e) encV_len rfl fun u w2 s2 f2 z2 => ?_
  obtain ⟨eu, rfl⟩ := slc_sv s2
  (repeat (first | refine gg ?_ | (apply BND_build ([.int .i64 room, .slice none 0 0, eu.v, .int .i64 (-1), .bool false]); exact rfl)))
  refine NEW_intro fun w3 b3 f3 z3 => ?_
  (repeat refine gg ?_)
  refine hR (by omega) w3 (hsz w2) (rf_shut (fv := .slice none 0 0) (dv := eu.v) (fc := []) (es := [e]) ⟨[hsz w2, hsz w1, hsz w], ?_, fun b hb => ?_, (f1.trans' f2).trans' f3⟩)
  · refine ⟨[hsz w2], [hsz w1, hsz w], ⟨⟨_, b3⟩, rfl⟩, ⟨[], [hsz w1, hsz w], Slc.nil _ _ _, ⟨[hsz w1, hsz w], [], ⟨fun b hb => ?_, ⟨[hsz w1], s2.fr f3 (by simp), by simp⟩, Ents.one ((s1.fr f2 (by simp)).fr f3 (by simp)) (by simp), ⟨rfl, fun i x h => by simp [empty] at h⟩⟩, ⟨trivial, rfl⟩, rfl, by simp⟩, rfl, by simp⟩, rfl, fun b hb hb' => ?_⟩
    · have := f3.grow
      simp at hb; omega
    · simp at hb hb'; omega
  · simp at hb
    right; omega
end
end Go.Proofs.YtofllgbdphakiaaGreat
end

section
namespace Go.Proofs.YtofllgbdphakiaaGreat
open Go.Den Go.Disk
theorem withD_at {x : ByteArray × Nat} : ∀ {l : Dir} {i : Nat}, (∀ y ∈ l.take i, bl y.1 x.1 = true) → (l.length ≤ i ∨ ∃ y, l[i]? = some y ∧ bl y.1 x.1 = false) → withD l x = l.take i ++ [x] ++ l.drop i
  | [], i, _, _ => by simp [withD]
  | z :: l, 0, _, h2 => by
    rcases h2 with h2 | ⟨y, h2, h3⟩
    · simp at h2
    · simp at h2; subst h2
      simp [withD, h3]
  | z :: l, i + 1, h1, h2 => by
    have hz : bl z.1 x.1 = true := h1 z (by simp)
    have := withD_at (l := l) (i := i) (fun y hy => h1 y (by simp [hy])) (by
      rcases h2 with h2 | ⟨y, h2, h3⟩
      · left; simpa using h2
      · right; exact ⟨y, by simpa using h2, h3⟩)
    simp [withD, hz, this]
theorem At.mono2 {P Q : HP} {w0 w : World} {F0 : List Nat} (h : At w0 F0 P w) (hpq : ∀ F, P.p w F → ∃ F', Q.p w F' ∧ ∀ b ∈ F', b ∈ F) : At w0 F0 Q w := by
  obtain ⟨F, h1, h2, h3⟩ := h
  obtain ⟨F', h4, h5⟩ := hpq F h1
  exact ⟨F', h4, fun b hb => h2 b (h5 b hb), h3⟩
/-- a new directory, and the row of all. -/
def newHP (dv : Value) (es : List SV) (e : SV) (l : Dir) : HP where
  p w F := (∀ b ∈ F, b < hsz w) ∧ (∃ G, Slc encV 1 w dv es G ∧ ∀ b ∈ G, b ∈ F) ∧ ∃ G, Slc encE 2 w e.v l G ∧ ∀ b ∈ G, b ∈ F
  lt := fun h => h.1
  st := by
    rintro w w' F ⟨h1, ⟨G, h2, h3⟩, ⟨H, h4, h5⟩⟩ hk
    refine ⟨fun b hb => ?_, ⟨G, h2.congr fun b hb => hk b (h3 b hb), h3⟩, H, h4.congr fun b hb => hk b (h5 b hb), h5⟩
    have := hk b hb
    have hlt := h1 b hb
    refine Nat.lt_of_not_le fun hge => ?_
    have e1 : blk w' b = none := blk_none hge
    rw [e1] at this
    have := Array.getElem?_eq_none_iff.1 (show w.heap[b]? = none from this.symm)
    unfold hsz at hlt
    omega
theorem stlt (a b : ByteArray) : binv .str .lss (.string a) (.string b) = some (.bool (bl a b)) := rfl
set_option linter.unusedSimpArgs false
set_option linter.unusedVariables false
set_option maxRecDepth 20000
set_option maxHeartbeats 4000000
attribute [local congr] BND_cg COND_cg GEF_cg
attribute [local irreducible] capl slicea load1 loadn iaddr iaddra faddr storev newslice binv lookv mupd mdel mlenv mentry mestore slicev slicev3 slices indexs indexav textv rangev nexts clearv shiftv eqaggv convi buildv pickv lens lenl unv nilchk extractv partn JOIN
section
variable {w0 w w' : World} {F0 : List Nat} {d : Nat} {s : Dk} {fv dv v : Value} {fc : List (SV × Nat)} {es : List SV} {l : Dir} {G : List Nat} {R : Value → World → Prop}
theorem rf_with (sl : Slc encE 2 w v l G) (x : ByteArray × Nat) (hn : l.length < 1000000) (hR : ∀ (w' : World) (e : SV) (G' : List Nat), Slc encE 2 w' e.v (withD l x) G' → (∀ b ∈ G', hsz w ≤ b) → Fr [] w w' → R e.v w') : CALL PR F_tumbrelref06_with [v, .agg (encE x).toArray] w R := by
  refine C_tumbrelref06_with ?_
  unfold M_tumbrelref06_with
  refine NEW_intro fun w1 b1 f1 z1 => ?_
  replace b1 : blk w1 (hsz w) = some (.cells (encE x).toArray _ (0, 0)) := b1
  refine loop_up 0 l.length (fun i w' => Fr [] w1 w' ∧ ∀ y ∈ l.take i, bl y.1 x.1 = true) ⟨Fr.refl _ _, by simp⟩ (by omega) ?_
  rintro i w2 - hi ⟨f2, e2⟩ J m hJ
  have f12 := f1.trans' (f2.trans' (Fr.drew [] w2))
  have s2 := sl.fr f12 (by simp)
  have b2 := (f2.trans' (Fr.drew [] w2)).some (by simp) b1
  have g12 := f12.grow
  have fin : ∀ (_ : l.length ≤ i ∨ ∃ y, l[i]? = some y ∧ bl y.1 x.1 = false), (BND (newslice 103 #[(Value.string ByteArray.empty), (Value.int .i64 0)] 2 0 [] w2.drew) fun p_ => NEW p_ fun t23_32 w3 =>
      BND (slicev 2 v none (some (.int .i64 (i : Int)))) fun t26_33 =>
      APPEND 103 2 24 (Value.agg #[(Value.string ByteArray.empty), (Value.int .i64 0)]) t23_32 t26_33 w3 fun t27_34 w4 =>
      BND (slicev 2 v (some (.int .i64 (i : Int))) none) fun t34_35 =>
      BND (loadn 2 w4.drew (.pointer (some ⟨hsz w, 0, none⟩))) fun t29_36 =>
      BND (newslice 103 #[(Value.string ByteArray.empty), (Value.int .i64 0)] 2 1 [(0, 2, t29_36)] w4.drew) fun p_ => NEW p_ fun t30_37 w5 =>
      APPEND 103 2 24 (Value.agg #[(Value.string ByteArray.empty), (Value.int .i64 0)]) t27_34 t30_37 w5 fun t31_38 w6 =>
      APPEND 103 2 24 (Value.agg #[(Value.string ByteArray.empty), (Value.int .i64 0)]) t31_38 t34_35 w6 fun t35_39 w7 =>
      R t35_39 w7) := by
    intro hend
    have hw := withD_at e2 hend
    have ed : hsz w2.drew = hsz w2 := rfl
    have hG := s2.lt
    obtain ⟨va, ea, ca⟩ := s2.upto encE_len (n := i) hi .i64
    obtain ⟨vb, eb, cb⟩ := s2.from encE_len (n := i) hi .i64
    refine newnil_step encE fun t3 w3 s3 f3 z3 => ?_
    (repeat refine gg ?_)
    refine APPEND_slc s3 (ca w3 fun b hb => f3.keep b (hG b hb) (by simp)) encE_len encE_one rfl (by simp; omega) (by simp; omega) fun v4 w4 F4 s4 f4 sub4 => ?_
    rw [List.nil_append] at s4
    have sub4' : ∀ b ∈ F4, hsz w2.drew ≤ b := fun b hb => by
      rcases sub4 b hb with h | h
      · simp at h; omega
      · omega
    have f24 : Fr [] w2.drew w4.drew := (f3.trans f4 fun b hb => .inr (by simp at hb; omega)).trans' (Fr.drew _ _)
    have b4 := f24.some (by simp) b2
    (repeat (first | refine BND_step (loadn_all b4 rfl) ?_ | refine gg ?_))
    refine push_step (enc := encE) (x := x) (s4.fr (Fr.drew [] _) (by simp)) encE_len encE_one rfl rfl (by omega) (by simp; omega) fun v6 w6 F6 s6 sub6 f6 => ?_
    have sub6' : ∀ b ∈ F6, hsz w2.drew ≤ b := fun b hb => by
      rcases sub6 b hb with h | h
      · exact sub4' b h
      · have := f24.grow; omega
    have f26 : Fr [] w2.drew w6 := f24.trans f6 fun b hb => .inr (sub4' b hb)
    refine APPEND_slc s6 (cb w6 fun b hb => f26.keep b (hG b hb) (by simp)) encE_len encE_one rfl (by simp; omega) (by simp; omega) fun v7 w7 F7 s7 f7 sub7 => ?_
    rw [← hw] at s7
    obtain ⟨e, rfl⟩ := slc_sv s7
    have f27 := f26.trans f7 fun b hb => .inr (sub6' b hb)
    refine hR w7 e F7 s7 (fun b hb => ?_) (f12.trans' f27)
    rcases sub7 b hb with h | h
    · have := sub6' b h; omega
    · have := f26.grow; omega
  by_cases hlt : i < l.length
  · have hx := List.getElem?_eq_getElem hlt
    generalize l[i] = y at hx
    obtain ⟨b, o, ia, _, _, l1⟩ := s2.arr.spot hx rfl .i64
    have elt := stlt y.1 x.1
    (repeat (first | refine BND_step sl.len ?_ | (apply BND_step; exact (l1 (w' := w2.drew) rfl (j := 0) rfl)) | refine gg ?_))
    cases hb : bl y.1 x.1 with
    | true =>
      (repeat refine gg ?_)
      refine hJ _ hlt ⟨f2.trans' (Fr.drew _ _), fun z hz => ?_⟩
      rw [List.take_add_one, hx] at hz
      rcases List.mem_append.1 hz with hz | hz
      · exact e2 z hz
      · simp at hz; subst hz; exact hb
    | false =>
      (repeat refine gg ?_)
      exact fin (.inr ⟨y, hx, hb⟩)
  · (repeat (first | refine BND_step sl.len ?_ | refine gg ?_))
    exact fin (.inl (by omega))
theorem rf_without (sl : Slc encE 2 w v l G) (n : ByteArray) (hn : l.length < 1000000) (hR : ∀ (w' : World) (e : SV) (G' : List Nat), Slc encE 2 w' e.v (without l n) G' → (∀ b ∈ G', hsz w ≤ b) → Fr [] w w' → R e.v w') : CALL PR F_tumbrelref06_without [v, .string n] w R := by
  refine C_tumbrelref06_without ?_
  unfold M_tumbrelref06_without
  refine newnil_step encE fun t1 w1 s1 f1 z1 => ?_
  refine loop_up2 (o := t1) 0 l.length (fun o i w' => ∃ H, Slc encE 2 w' o (without (l.take i) n) H ∧ (∀ b ∈ H, hsz w ≤ b) ∧ Fr [] w w') ⟨[hsz w], by simpa [without] using s1, by simp, f1⟩ (by omega) ?_
  rintro o i w2 - hi ⟨H, s2, h2, f2⟩ J m hJ
  by_cases hlt : i < l.length
  · have hx := List.getElem?_eq_getElem hlt
    generalize l[i] = y at hx
    have hst : without (l.take (i + 1)) n = without (l.take i) n ++ (if y.1 = n then [] else [y]) := by
      rw [List.take_add_one, hx]
      unfold without
      rw [List.filter_append]
      congr 1
      by_cases h : y.1 = n <;> simp [h]
    have hl2 : (without (l.take i) n).length < 1000000 := by have := len_without (l.take i) n; rw [List.length_take] at this; omega
    obtain ⟨b, o2, ia, ln, hbl, l1⟩ := (sl.fr f2 (by simp)).arr.spot hx rfl .i64
    (repeat (first | refine BND_step sl.len ?_ | (apply BND_step; exact (l1 (w' := w2) rfl (j := 0) rfl)) | refine gg ?_))
    by_cases hy : y.1 = n
    · rw [if_pos hy, List.append_nil] at hst
      (repeat refine gg ?_)
      refine join_v (Q := fun v w' => v = o ∧ w' = w2) (fun k hk => ?_) ?_
      · (repeat refine gg ?_)
        exact hk _ _ ⟨rfl, rfl⟩
      · rintro v' w' ⟨rfl, rfl⟩
        (repeat refine gg ?_)
        exact hJ _ _ hlt ⟨H, by rw [hst]; exact s2, h2, f2⟩
    · rw [if_neg hy] at hst
      (repeat refine gg ?_)
      refine join_v (Q := fun v w' => ∃ H, Slc encE 2 w' v (without (l.take (i + 1)) n) H ∧ (∀ b ∈ H, hsz w ≤ b) ∧ Fr [] w w') (fun k hk => ?_) ?_
      · (repeat refine gg ?_)
        refine push_step (enc := encE) (x := y) s2 encE_len encE_one rfl rfl (by omega) (by omega) fun v3 w3 F3 s3 sub3 f3 => ?_
        refine hk _ _ ⟨F3, by rw [hst]; exact s3, fun b hb => ?_, f2.trans f3 fun b hb => .inr (h2 b hb)⟩
        rcases sub3 b hb with h | h
        · exact h2 b h
        · have := f2.grow; omega
      · rintro v' w' h
        (repeat refine gg ?_)
        exact hJ _ _ hlt h
  · (repeat (first | refine BND_step sl.len ?_ | refine gg ?_))
    rw [List.take_of_length_le (by omega)] at s2
    obtain ⟨e, rfl⟩ := slc_sv s2
    exact hR w2 e H s2 h2 f2
/-- the row of directories is given a new one. -/
theorem rf_dirs {K : World → Prop} {dv' : Value} {e : SV} {G1 G2 : List Nat} (h : At w0 F0 (stars (rfL d s fv dv fc es)) w) (f : Fr [] w w') (sv : Slc encV 1 w' dv' (es ++ [e]) G1) (h1 : ∀ b ∈ G1, hsz w ≤ b) (se : Slc encE 2 w' e.v l G2) (h2 : ∀ b ∈ G2, hsz w ≤ b)
    (hK : ∀ w'', At w0 F0 (rfHP d { s with dirs := s.dirs ++ [l] }) w'' → K w'') : BND (storev 1 w' (.pointer (some ⟨d, 2, none⟩)) dv') K := by
  have hn : (newHP dv' (es ++ [e]) e l).p w' (G1 ++ G2) := ⟨fun b hb => by
    rcases List.mem_append.1 hb with hb | hb
    · exact sv.lt b hb
    · exact se.lt b hb, ⟨G1, sv, fun b hb => by simp [hb]⟩, G2, se, fun b hb => by simp [hb]⟩
  have ha := h.add f hn (fun b hb => by
    rcases List.mem_append.1 hb with hb | hb
    · exact h1 b hb
    · exact h2 b hb)
  refine ha.store (i := 1) rfl sv.one (by simp [rfC]) fun w2 h3 _ => hK w2 (rf_shut (fv := fv) (dv := dv') (fc := fc) (es := es ++ [e]) (At.mono2 h3 fun F hF => ?_))
  obtain ⟨A, _, ⟨n1, ⟨G3, n2, n3⟩, G4, n4, n5⟩, ⟨A2, _, hp, ⟨A3, _, hs, ⟨A4, _, ⟨i1, ⟨G5, i2, i3⟩, i4, i5⟩, ⟨_, rfl⟩, rfl, d4⟩, rfl, d3⟩, rfl, d2⟩, rfl, d1⟩ := hF
  refine ⟨A2 ++ (A3 ++ ((A4 ++ A) ++ [])), ⟨A2, _, hp, ⟨A3, _, hs, ⟨A4 ++ A, [], ⟨fun b hb => ?_, ⟨G3, n2, fun b hb => by simp [n3 b hb]⟩, (i4.sub fun b hb => by simp [hb]).snoc n4 (fun b hb => by simp [n5 b hb]), i5.sub fun b hb => by simp [hb]⟩, ⟨trivial, rfl⟩, rfl, by simp⟩, rfl, fun b hb hb' => ?_⟩, rfl, fun b hb hb' => ?_⟩, fun b hb => ?_⟩
  · rcases List.mem_append.1 hb with hb | hb
    · exact i1 b hb
    · exact n1 b hb
  · simp only [List.append_nil, List.mem_append] at hb'
    rcases hb' with hb' | hb'
    · exact d3 b hb (by simp [hb'])
    · exact d1 b hb' (by simp [hb])
  · simp only [List.append_nil, List.mem_append] at hb'
    rcases hb' with hb' | hb' | hb'
    · exact d2 b hb (by simp [hb'])
    · exact d2 b hb (by simp [hb'])
    · exact d1 b hb' (by simp [hb])
  · simp only [List.append_nil, List.mem_append] at hb ⊢
    rcases hb with hb | hb | hb | hb <;> simp [hb]
/-- the row of directories is just one of them. -/
theorem rf_dir1 {K : World → Prop} {dv' : Value} {e : SV} {G1 : List Nat} {i : Nat} (h : At w0 F0 (stars (rfL d s fv dv fc es)) w) (f : Fr [] w w') (sv : Slc encV 1 w' dv' [e] G1) (h1 : ∀ b ∈ G1, hsz w ≤ b) (he : es[i]? = some e) (hl : s.dirs[i]? = some l)
    (hK : ∀ w'', At w0 F0 (stars (rfL d { s with dirs := [l] } fv dv' fc [e])) w'' → K w'') : BND (storev 1 w' (.pointer (some ⟨d, 2, none⟩)) dv') K := by
  have ha := h.add f (P := slc encV 1 dv' [e]) sv h1
  refine ha.store (i := 1) rfl sv.one (by simp [rfC]) fun w2 h3 _ => hK w2 (At.mono2 h3 fun F hF => ?_)
  obtain ⟨A, _, n2, ⟨A2, _, hp, ⟨A3, _, hs, ⟨A4, _, ⟨i1, ⟨G5, i2, i3⟩, i4, i5⟩, ⟨_, rfl⟩, rfl, d4⟩, rfl, d3⟩, rfl, d2⟩, rfl, d1⟩ := hF
  replace n2 : Slc encV 1 w2 dv' [e] A := n2
  obtain ⟨e', G', q1, q2, q3⟩ := i4.2 i l hl
  rw [he] at q1
  cases q1
  refine ⟨A2 ++ (A3 ++ ((A4 ++ A) ++ [])), ⟨A2, _, hp, ⟨A3, _, hs, ⟨A4 ++ A, [], ⟨fun b hb => ?_, ⟨A, n2, fun b hb => by simp [hb]⟩, Ents.one q2 (fun b hb => by simp [q3 b hb]), i5.sub fun b hb => by simp [hb]⟩, ⟨trivial, rfl⟩, rfl, by simp⟩, rfl, fun b hb hb' => ?_⟩, rfl, fun b hb hb' => ?_⟩, fun b hb => ?_⟩
  · rcases List.mem_append.1 hb with hb | hb
    · exact i1 b hb
    · exact n2.lt b hb
  · simp only [List.append_nil, List.mem_append] at hb'
    rcases hb' with hb' | hb'
    · exact d3 b hb (by simp [hb'])
    · exact d1 b hb' (by simp [hb])
  · simp only [List.append_nil, List.mem_append] at hb'
    rcases hb' with hb' | hb' | hb'
    · exact d2 b hb (by simp [hb'])
    · exact d2 b hb (by simp [hb'])
    · exact d1 b hb' (by simp [hb])
  · simp only [List.append_nil, List.mem_append] at hb ⊢
    rcases hb with hb | hb | hb | hb <;> simp [hb]
/-- the row of files is another one. -/
theorem rf_files {K : World → Prop} {fv' : Value} {v : SV} {x : Fl} {G1 : List Nat} (h : At w0 F0 (stars (rfL d s fv dv fc es)) w) (f : Fr [] w w') (sv : Slc encG 2 w' fv' (fc ++ [(v, x.sure)]) G1) (h1 : ∀ b ∈ G1, hsz w ≤ b) (hx : ∀ w'', Slc encB 1 w'' v.v x.b [])
    (hK : ∀ w'', At w0 F0 (stars (rfL d { s with files := s.files ++ [x] } fv' dv (fc ++ [(v, x.sure)]) es)) w'' → K w'') : BND (storev 1 w' (.pointer (some ⟨d, 1, none⟩)) fv') K := by
  have ha := h.add f (P := slc encG 2 fv' (fc ++ [(v, x.sure)])) sv h1
  refine ha.store (i := 1) rfl sv.one (by simp [rfC]) fun w2 h3 _ => hK w2 (At.mono2 h3 fun F hF => ?_)
  obtain ⟨A, _, n2, ⟨A2, _, hp, ⟨A3, _, hs, ⟨A4, _, ⟨i1, ⟨G5, i2, i3⟩, i4, i5⟩, ⟨_, rfl⟩, rfl, d4⟩, rfl, d3⟩, rfl, d2⟩, rfl, d1⟩ := hF
  refine ⟨A2 ++ (A ++ (A4 ++ [])), ⟨A2, _, hp, ⟨A, _, n2, ⟨A4, [], ⟨i1, ⟨G5, i2, i3⟩, i4, i5.snoc (hx w2) (by simp)⟩, ⟨trivial, rfl⟩, rfl, by simp⟩, rfl, fun b hb hb' => ?_⟩, rfl, fun b hb hb' => ?_⟩, fun b hb => ?_⟩
  · exact d1 b hb (by simp only [List.append_nil, List.mem_append] at hb' ⊢; simp [hb'])
  · simp only [List.append_nil, List.mem_append] at hb'
    rcases hb' with hb' | hb'
    · exact d1 b hb' (by simp [hb])
    · exact d2 b hb (by simp [hb'])
  · simp only [List.append_nil, List.mem_append] at hb ⊢
    rcases hb with hb | hb | hb <;> simp [hb]
end
end Go.Proofs.YtofllgbdphakiaaGreat
end

section
namespace Go.Proofs.YtofllgbdphakiaaGreat
open Go.Den Go.Disk
theorem numOf_neg {o : Option Nat} : numOf o < 0 ↔ o = none := by
  cases o with
  | none => simp [numOf]
  | some f => simp [numOf]
theorem there_num (s : Dk) (n : ByteArray) : there s n = if numOf (s.find n) < 0 then 5 else 0 := by
  unfold there
  cases h : s.find n with
  | none => simp [numOf]
  | some f =>
    have : ¬ ((f : Int) < 0) := by omega
    simp [numOf, this]
set_option linter.unusedSimpArgs false
set_option linter.unusedVariables false
set_option maxRecDepth 20000
set_option maxHeartbeats 4000000
attribute [local congr] BND_cg COND_cg GEF_cg
attribute [local irreducible] capl slicea load1 loadn iaddr iaddra faddr storev newslice binv lookv mupd mdel mlenv mentry mestore slicev slicev3 slices indexs indexav textv rangev nexts clearv shiftv eqaggv convi buildv pickv lens lenl unv nilchk extractv partn JOIN
section
variable {w0 w w' : World} {F0 : List Nat} {d : Nat} {s : Dk} {fv dv v : Value} {fc : List (SV × Nat)} {es : List SV} {l : Dir} {G : List Nat} {R : Value → World → Prop}
/-- the row of directories, copied. -/
theorem rf_dcopy {E E' bytes : Nat} {zero : Array Value} {zero' : Value} {k : Value → World → Prop} (h : At w0 F0 (stars (rfL d s fv dv fc es)) w) (hn : s.dirs.length < 1000000000) (hz : zero'.cells.size = 1) (hb : bytes ≤ 1000)
    (K : ∀ v' w' G, Slc encV 1 w' v' es G → (∀ b ∈ G, hsz w ≤ b) → Fr [] w w' → k v' w') : BND (newslice E zero 1 0 [] w) fun p_ => NEW p_ fun t w1 => BND (nilchk (ptrTo d)) fun a => BND (faddr 2 a) fun c => BND (load1 w1 c) fun u => APPEND E' 1 bytes zero' t u w1 k := by
  obtain ⟨T, c⟩ := h.cell (i := 0) rfl
  obtain ⟨F, ⟨_, ⟨G, sd, _⟩, ⟨hl, hE⟩, _⟩, _⟩ := h.get 2 rfl
  refine newnil_step encV fun t w1 s1 f1 z1 => ?_
  have c1 := f1.some (by simp) c
  unfold ptrTo
  (repeat refine gg ?_)
  refine APPEND_slc s1 ((sd.fr f1 (by simp)).loads encV_len) encV_len encV_one hz (by simp only [List.length_nil, Nat.zero_add]; exact Nat.le_trans (Nat.mul_le_mul_left _ hb) (by omega)) (by simp; omega) fun v' w' F' s' f' sub => ?_
  refine K v' w' F' (by simpa using s') (fun b hb => ?_) (f1.trans f' fun b hb => .inr (by simp at hb; omega))
  rcases sub b hb with h | h
  · simp at h; omega
  · omega
theorem rf_Delete (h : At w0 F0 (rfHP d s) w) (hw : s.Wf) (hn : s.dirs.length < 1000000000) (n : ByteArray) (hR : ∀ w', At w0 F0 (rfHP d (delete s n).1) w' → R (.int .i64 (delete s n).2) w') : CALL PR F_tumbrelref06_Disk_Delete [ptrTo d, .string n] w R := by
  refine C_tumbrelref06_Disk_Delete ?_
  unfold M_tumbrelref06_Disk_Delete
  refine rf_find h hw hn n fun w1 f1 => ?_
  have h1 := h.fr0 f1
  (repeat refine gg ?_)
  refine join_v (Q := fun v w' => v = .int .i64 (there s n) ∧ w' = w1) (fun k hk => ?_) ?_
  · rw [there_num] at hk
    by_cases hf : numOf (s.find n) < 0
    · (repeat refine gg ?_)
      exact hk _ _ ⟨by rw [if_pos hf], rfl⟩
    · (repeat refine gg ?_)
      exact hk _ _ ⟨by rw [if_neg hf], rfl⟩
  rintro _ _ ⟨rfl, rfl⟩
  refine rf_can h1 _ hw.burn fun w3 h3 => ?_
  unfold delete at hR
  by_cases hc : (can s (there s n)).2 = 0
  · simp only [hc, if_true] at hR
    rw [hc]
    obtain ⟨k1, k2, k3⟩ := can_keep s (there s n)
    (repeat refine gg ?_)
    refine join_w (fun w' => At w0 F0 (rfHP d { (can s (there s n)).1 with dirs := s.dirs ++ [without s.now n] }) w') (fun K hK => ?_) (fun w' hw' => hR w' hw')
    obtain ⟨fv, dv, fc, es, hs⟩ := rf_open h3
    (repeat refine gg ?_)
    refine rf_dcopy hs (by rw [k2]; exact hn) rfl (by omega) fun v6 w6 G6 s6 g6 f6 => ?_
    have hnow : (can s (there s n)).1.now = s.now := by unfold Dk.now; rw [k2]
    refine rf_now (hs.fr0 f6) (by rw [k2]; exact hw.ne) (by rw [k2]; exact hn) fun e Ge _ se => ?_
    rw [hnow] at se
    have f7 := f6.trans' (Fr.drew [] w6)
    refine rf_without se n (by have := hw.many _ (now_mem hw); omega) fun w8 e8 G8 s8 g8 f8 => ?_
    have f78 := f7.trans' f8
    have s6' := (s6.fr (Fr.drew [] w6) (by simp)).fr f8 (by simp)
    refine push_step (enc := encV) (x := e8) s6' encV_len encV_one rfl rfl (by omega) (by have := hs.get 2 rfl; obtain ⟨F, ⟨_, _, ⟨hl, _⟩, _⟩, _⟩ := this; rw [k2] at hl; omega) fun v9 w9 G9 s9 g9 f9 => ?_
    have gr := f78.grow
    have g6' : ∀ b ∈ G6, b ∈ ([] : List Nat) ∨ hsz w3 ≤ b := fun b hb => .inr (g6 b hb)
    have s8' := s8.fr f9 (fun b hb hb' => by have := g8 b hb; have := s6.lt b hb'; have : hsz w6.drew = hsz w6 := rfl; omega)
    unfold ptrTo
    (repeat refine gg ?_)
    refine rf_dirs hs (f78.trans f9 g6') s9 (fun b hb => ?_) s8' (fun b hb => ?_) fun w10 h10 => hK w10 ?_
    · rcases g9 b hb with h | h
      · exact g6 b h
      · omega
    · have := g8 b hb
      have := f7.grow
      omega
    · rw [k2] at h10; exact h10
  · simp only [hc, if_false] at hR
    (repeat refine gg ?_)
    refine join_w (fun w' => At w0 F0 (rfHP d (can s (there s n)).1) w') (fun K hK => ?_) (fun w' hw' => hR w' hw')
    (repeat refine gg ?_)
    exact hK _ h3
theorem rf_DirSync (h : At w0 F0 (rfHP d s) w) (hw : s.Wf) (hn : s.dirs.length < 1000000000) (hR : ∀ w', At w0 F0 (rfHP d (dirsync s).1) w' → R (.int .i64 (dirsync s).2) w') : CALL PR F_tumbrelref06_Disk_DirSync [ptrTo d] w R := by
  refine C_tumbrelref06_Disk_DirSync ?_
  unfold M_tumbrelref06_Disk_DirSync
  refine rf_can h _ hw.burn fun w1 h1 => ?_
  unfold dirsync at hR
  by_cases hc : (can s 0).2 = 0
  · simp only [hc, if_true] at hR
    rw [hc]
    obtain ⟨k1, k2, k3⟩ := can_keep s 0
    (repeat refine gg ?_)
    refine join_w (fun w' => At w0 F0 (rfHP d { (can s 0).1 with dirs := [s.now] }) w') (fun K hK => ?_) (fun w' hw' => hR w' hw')
    obtain ⟨fv, dv, fc, es, hs⟩ := rf_open h1
    (repeat refine gg ?_)
    refine rf_now hs (by rw [k2]; exact hw.ne) (by rw [k2]; exact hn) fun e Ge he se => ?_
    refine newone_step (enc := encV) (x := e) encV_len rfl fun u w4 s4 f4 z4 => ?_
    unfold ptrTo
    (repeat refine gg ?_)
    refine rf_dir1 hs ((Fr.drew [] w1).trans' f4) s4 (fun b hb => by simp at hb; subst hb; exact Nat.le_refl _) he (l := s.now) (by rw [k2]; exact dk_now_get hw.ne) fun w5 h5 => hK w5 (rf_shut h5)
  · simp only [hc, if_false] at hR
    (repeat refine gg ?_)
    refine join_w (fun w' => At w0 F0 (rfHP d (can s 0).1) w') (fun K hK => ?_) (fun w' hw' => hR w' hw')
    (repeat refine gg ?_)
    exact hK _ h1
theorem rf_Rename (h : At w0 F0 (rfHP d s) w) (hw : s.Wf) (hn : s.dirs.length < 1000000000) (a b : ByteArray) (hb_ : b.size ≤ 9223372036854775807) (hR : ∀ w', At w0 F0 (rfHP d (rename s a b).1) w' → R (.int .i64 (rename s a b).2) w') : CALL PR F_tumbrelref06_Disk_Rename [ptrTo d, .string a, .string b] w R := by
  refine C_tumbrelref06_Disk_Rename ?_
  unfold M_tumbrelref06_Disk_Rename
  refine rf_find h hw hn a fun w1 f1 => ?_
  have h1 := h.fr0 f1
  (repeat refine gg ?_)
  refine join_v (Q := fun v w' => v = .int .i64 (renameE s a b) ∧ Fr [] w1 w') (fun k hk => ?_) ?_
  · unfold renameE at hk
    by_cases hf : numOf (s.find a) < 0
    · rw [numOf_neg.1 hf] at hk
      (repeat refine gg ?_)
      exact hk _ _ ⟨rfl, Fr.refl _ _⟩
    · obtain ⟨f, hfs⟩ : ∃ f, s.find a = some f := by
        cases hq : s.find a with
        | none => exact absurd (numOf_neg.2 hq) hf
        | some f => exact ⟨f, rfl⟩
      rw [hfs] at hk
      simp only [Option.isSome_some, if_true] at hk
      (repeat refine gg ?_)
      refine rf_may b hb_ fun w14 f14 => ?_
      cases hm : named b with
      | false =>
        rw [hm] at hk
        (repeat refine gg ?_)
        refine join_v (Q := fun v w' => v = .int .i64 1 ∧ w' = w14) (fun k2 hk2 => ?_) ?_
        · (repeat refine gg ?_)
          exact hk2 _ _ ⟨rfl, rfl⟩
        · rintro _ _ ⟨rfl, rfl⟩
          exact hk _ _ ⟨rfl, f14⟩
      | true =>
        rw [hm] at hk
        (repeat refine gg ?_)
        refine join_v (Q := fun v w' => v = .int .i64 0 ∧ w' = w14) (fun k2 hk2 => ?_) ?_
        · (repeat refine gg ?_)
          exact hk2 _ _ ⟨rfl, rfl⟩
        · rintro _ _ ⟨rfl, rfl⟩
          exact hk _ _ ⟨rfl, f14⟩
  rintro _ w2 ⟨rfl, f2⟩
  refine rf_can (h1.fr0 f2) _ hw.burn fun w3 h3 => ?_
  unfold rename at hR
  by_cases hc : (can s (renameE s a b)).2 = 0
  · simp only [hc, if_true] at hR
    rw [hc]
    have h0 := can_zero hc
    obtain ⟨f, hfs⟩ : ∃ f, s.find a = some f := by
      unfold renameE at h0
      cases hq : s.find a with
      | none => rw [hq] at h0; simp at h0
      | some f => exact ⟨f, rfl⟩
    rw [hfs] at hR ⊢
    simp only [Option.getD_some] at hR
    obtain ⟨k1, k2, k3⟩ := can_keep s (renameE s a b)
    (repeat refine gg ?_)
    refine join_w (fun w' => At w0 F0 (rfHP d { (can s (renameE s a b)).1 with dirs := s.dirs ++ [withD (without (without s.now a) b) (b, f)] }) w') (fun K hK => ?_) (fun w' hw' => hR w' hw')
    obtain ⟨fv, dv, fc, es, hs⟩ := rf_open h3
    have hel : es.length = s.dirs.length := by obtain ⟨F, ⟨_, _, ⟨hl, _⟩, _⟩, _⟩ := hs.get 2 rfl; rw [k2] at hl; exact hl
    (repeat refine gg ?_)
    refine rf_dcopy hs (by rw [k2]; exact hn) rfl (by omega) fun v6 w6 G6 s6 g6 f6 => ?_
    have hnow : (can s (renameE s a b)).1.now = s.now := by unfold Dk.now; rw [k2]
    refine rf_now (hs.fr0 f6) (by rw [k2]; exact hw.ne) (by rw [k2]; exact hn) fun e Ge _ se => ?_
    rw [hnow] at se
    have h60 := hw.many _ (now_mem hw)
    have l1 := len_without s.now a
    have l2 := len_without (without s.now a) b
    have f7 := f6.trans' (Fr.drew [] w6)
    refine rf_without se a (by omega) fun w8 e8 G8 s8 g8 f8 => ?_
    refine rf_without s8 b (by omega) fun w9 e9 G9 s9 g9 f9 => ?_
    (repeat (first | refine gg ?_ | (apply BND_build ([.string b, .int .i64 (f : Int)]); exact rfl)))
    refine rf_with s9 (b, f) (by omega) fun w10 e10 G10 s10 g10 f10 => ?_
    have f70 := (f8.trans' f9).trans' f10
    have f3 := f7.trans' f70
    have s6' := (s6.fr (Fr.drew [] w6) (by simp)).fr f70 (by simp)
    refine push_step (enc := encV) (x := e10) s6' encV_len encV_one rfl rfl (by omega) (by omega) fun v11 w11 G11 s11 g11 f11 => ?_
    have gr := f3.grow
    have gr7 := f7.grow
    have gr2 := (f8.trans' f9).grow
    have e6 : hsz w6.drew = hsz w6 := rfl
    have s10' := s10.fr f11 (fun b hb hb' => by have := g10 b hb; have := s6.lt b hb'; omega)
    unfold ptrTo
    (repeat refine gg ?_)
    refine rf_dirs hs (f3.trans f11 fun b hb => .inr (g6 b hb)) s11 (fun b hb => ?_) s10' (fun b hb => ?_) fun w12 h12 => hK w12 ?_
    · rcases g11 b hb with h | h
      · exact g6 b h
      · omega
    · have := g10 b hb
      omega
    · rw [k2] at h12; exact h12
  · simp only [hc, if_false] at hR
    (repeat refine gg ?_)
    refine join_w (fun w' => At w0 F0 (rfHP d (can s (renameE s a b)).1) w') (fun K hK => ?_) (fun w' hw' => hR w' hw')
    (repeat refine gg ?_)
    exact hK _ h3
theorem rf_Create (h : At w0 F0 (rfHP d s) w) (hw : s.Wf) (hn : s.dirs.length < 1000000000) (hn2 : s.files.length < 1000000000) (n : ByteArray) (hn_ : n.size ≤ 9223372036854775807) (hR : ∀ w', At w0 F0 (rfHP d (create s n).1) w' → R (.int .i64 (create s n).2) w') : CALL PR F_tumbrelref06_Disk_Create [ptrTo d, .string n] w R := by
  refine C_tumbrelref06_Disk_Create ?_
  unfold M_tumbrelref06_Disk_Create
  have h60 := hw.many _ (now_mem hw)
  refine rf_may n hn_ fun w1 f1 => ?_
  have h1 := h.fr0 f1
  (repeat refine gg ?_)
  refine join_v (Q := fun v w' => v = .int .i64 (createE s n) ∧ Fr [] w1 w') (fun k hk => ?_) ?_
  · unfold createE at hk
    cases hm : named n with
    | false =>
      rw [hm] at hk
      (repeat refine gg ?_)
      exact hk _ _ ⟨rfl, Fr.refl _ _⟩
    | true =>
      rw [hm] at hk
      simp only [Bool.true_eq_false, if_false] at hk
      (repeat refine gg ?_)
      refine rf_find h1 hw hn n fun w2 f2 => ?_
      by_cases hf : numOf (s.find n) < 0
      · rw [numOf_neg.1 hf] at hk
        simp only [Option.isSome_none, Bool.false_eq_true, if_false] at hk
        (repeat refine gg ?_)
        refine join_v (Q := fun v w' => v = .int .i64 (if 60 ≤ s.now.length then 4 else 0) ∧ Fr [] w1 w') (fun k2 hk2 => ?_) ?_
        · (repeat refine gg ?_)
          obtain ⟨fv, dv, fc, es, hs⟩ := rf_open (h1.fr0 f2)
          refine rf_now hs hw.ne hn fun e Ge _ se => ?_
          by_cases hq : 60 ≤ s.now.length
          · (repeat (first | refine BND_step se.len ?_ | refine gg ?_))
            refine join_v (Q := fun v w' => v = .int .i64 4 ∧ w' = w2.drew) (fun k3 hk3 => ?_) ?_
            · (repeat refine gg ?_)
              exact hk3 _ _ ⟨rfl, rfl⟩
            · rintro _ _ ⟨rfl, rfl⟩
              exact hk2 _ _ ⟨by rw [if_pos hq], f2.trans' (Fr.drew _ _)⟩
          · (repeat (first | refine BND_step se.len ?_ | refine gg ?_))
            refine join_v (Q := fun v w' => v = .int .i64 0 ∧ w' = w2.drew) (fun k3 hk3 => ?_) ?_
            · (repeat refine gg ?_)
              exact hk3 _ _ ⟨rfl, rfl⟩
            · rintro _ _ ⟨rfl, rfl⟩
              exact hk2 _ _ ⟨by rw [if_neg hq], f2.trans' (Fr.drew _ _)⟩
        · rintro v w' ⟨rfl, h⟩
          exact hk _ _ ⟨rfl, h⟩
      · obtain ⟨f, hfs⟩ : ∃ f, s.find n = some f := by
          cases hq : s.find n with
          | none => exact absurd (numOf_neg.2 hq) hf
          | some f => exact ⟨f, rfl⟩
        rw [hfs] at hk
        simp only [Option.isSome_some, if_true] at hk
        (repeat refine gg ?_)
        refine join_v (Q := fun v w' => v = .int .i64 6 ∧ Fr [] w1 w') (fun k2 hk2 => ?_) ?_
        · (repeat refine gg ?_)
          exact hk2 _ _ ⟨rfl, f2⟩
        · rintro v w' ⟨rfl, h⟩
          exact hk _ _ ⟨rfl, h⟩
  rintro _ w2 ⟨rfl, f2⟩
  refine rf_can (h1.fr0 f2) _ hw.burn fun w3 h3 => ?_
  unfold create at hR
  by_cases hc : (can s (createE s n)).2 = 0
  · simp only [hc, if_true] at hR
    rw [hc]
    obtain ⟨k1, k2, k3⟩ := can_keep s (createE s n)
    have hnow : (can s (createE s n)).1.now = s.now := by unfold Dk.now; rw [k2]
    generalize (can s (createE s n)).1 = s1 at hR h3 k1 k2 k3 hnow
    (repeat refine gg ?_)
    refine join_w (fun w' => At w0 F0 (rfHP d { s1 with files := s.files ++ [⟨[], 0⟩], dirs := s.dirs ++ [withD s.now (n, s.files.length)] }) w') (fun K hK => ?_) (fun w' hw' => hR w' hw')
    obtain ⟨fv, dv, fc, es, hs⟩ := rf_open h3
    obtain ⟨T, c⟩ := hs.cell (i := 0) rfl
    obtain ⟨Ff, sf, _⟩ := hs.slc1 (i := 1) rfl
    obtain ⟨hel, hfl⟩ : es.length = s.dirs.length ∧ fc.length = s.files.length := by obtain ⟨F, ⟨_, _, ⟨hl, _⟩, ⟨hl2, _⟩⟩, _⟩ := hs.get 2 rfl; rw [k2] at hl; rw [k1] at hl2; exact ⟨hl, hl2⟩
    (repeat refine gg ?_)
    refine newnil_step encG fun t5 w5 s5 f5 z5 => ?_
    have c5 := f5.some (by simp) c
    unfold ptrTo
    (repeat refine gg ?_)
    refine APPEND_slc s5 ((sf.fr f5 (by simp)).loads encG_len) encG_len encG_one rfl (by simp; omega) (by simp; omega) fun v6 w6 G6 s6 f6 sub6 => ?_
    rw [List.nil_append] at s6
    have g6 : ∀ b ∈ G6, hsz w3 ≤ b := fun b hb => by
      rcases sub6 b hb with h | h
      · simp at h; omega
      · omega
    have f36 : Fr [] w3 w6 := f5.trans f6 fun b hb => .inr (by simp at hb; omega)
    (repeat (first | refine gg ?_ | (apply BND_build ([.slice none 0 0, .int .i64 0]); exact rfl)))
    refine push_step (enc := encG) (x := (⟨none, 0, 0⟩, 0)) s6 encG_len encG_one rfl rfl (by omega) (by omega) fun v8 w8 G8 s8 g8 f8 => ?_
    have f38 : Fr [] w3 w8 := f36.trans f8 fun b hb => .inr (g6 b hb)
    have gr36 := f36.grow
    (repeat refine gg ?_)
    refine rf_files (v := ⟨none, 0, 0⟩) (x := ⟨[], 0⟩) hs f38 s8 (fun b hb => ?_) (fun w => Slc.nil _ _ _) fun w9 h9 => ?_
    · rcases g8 b hb with h | h
      · exact g6 b h
      · omega
    obtain ⟨T9, c9⟩ := h9.cell (i := 0) rfl
    have cd : blk w9.drew d = some (.cells (rfC { s1 with files := s1.files ++ [⟨[], 0⟩] } v8 dv).toArray T9 (0, 0)) := c9
    obtain ⟨Ff9, sf9, _⟩ := h9.slc1 (i := 1) rfl
    obtain ⟨F9, ⟨_, ⟨Gd, sd, _⟩, _⟩, _⟩ := h9.get 2 rfl
    refine ⟨fun _ w' => blk w' d = some (.cells (rfC { s1 with files := s1.files ++ [⟨[], 0⟩] } v8 dv).toArray T9 (0, 0)), cd, cd, ?_⟩
    have hlen : lenl v8 = some (.int .i64 ((s.files.length + 1 : Nat) : Int)) := by rw [sf9.len]; simp [hfl]
    (repeat (first | refine BND_step (subn_ (n := s.files.length + 1) (m := 1) (by omega) (by omega)) ?_ | refine gg ?_ | (apply BND_build ([.string n, .int .i64 ((s.files.length + 1 - 1 : Nat) : Int)]); exact rfl)))
    refine newnil_step encV fun t10 w10 s10 f10 z10 => ?_
    have c10 := f10.some (by simp) cd
    refine ⟨c10, c10, ?_⟩
    refine APPEND_slc s10 (((sd.fr (Fr.drew [] w9) (by simp)).fr f10 (by simp)).loads encV_len) encV_len encV_one rfl (by simp; omega) (by simp; omega) fun v11 w11 G11 s11 f11 sub11 => ?_
    rw [List.nil_append] at s11
    have e9 : hsz w9.drew = hsz w9 := rfl
    have g11 : ∀ b ∈ G11, hsz w9 ≤ b := fun b hb => by
      rcases sub11 b hb with h | h
      · simp at h; omega
      · omega
    have f911 : Fr [] w9 w11 := (Fr.drew [] w9).trans' (f10.trans f11 fun b hb => .inr (by simp at hb; omega))
    have c11 := f911.some (by simp) c9
    refine ⟨c11, ?_⟩
    refine rf_now (h9.fr0 f911) (by show s1.dirs ≠ []; rw [k2]; exact hw.ne) (by show s1.dirs.length < 1000000000; rw [k2]; exact hn) fun e Ge _ se => ?_
    replace se : Slc encE 2 w11.drew e.v s1.now Ge := se
    rw [hnow] at se
    refine ⟨c11, ?_⟩
    refine rf_with se (n, s.files.length + 1 - 1) (by omega) fun w13 e13 G13 s13 g13 f13 => ?_
    replace s13 : Slc encE 2 w13 e13.v (withD s.now (n, s.files.length)) G13 := s13
    have e11 : hsz w11.drew = hsz w11 := rfl
    have gr13 := f13.grow
    have gr911 := f911.grow
    have s11' := (s11.fr (Fr.drew [] w11) (by simp)).fr f13 (by simp)
    refine push_step (enc := encV) (x := e13) s11' encV_len encV_one rfl rfl (by omega) (by omega) fun v14 w14 G14 s14 g14 f14 => ?_
    have s13' := s13.fr f14 (fun b hb hb' => by have := g13 b hb; have := s11.lt b hb'; omega)
    (repeat refine gg ?_)
    refine rf_dirs h9 (((f911.trans' (Fr.drew [] w11)).trans' f13).trans f14 fun b hb => .inr (g11 b hb)) s14 (fun b hb => ?_) s13' (fun b hb => ?_) fun w12 h12 => hK w12 ?_
    · rcases g14 b hb with h | h
      · exact g11 b h
      · omega
    · have := g13 b hb
      omega
    · rw [k1] at h12
      have h12' := h12
      simp only [k2] at h12'
      exact h12'
  · simp only [hc, if_false] at hR
    (repeat refine gg ?_)
    refine join_w (fun w' => At w0 F0 (rfHP d (can s (createE s n)).1) w') (fun K hK => ?_) (fun w' hw' => hR w' hw')
    (repeat refine gg ?_)
    exact hK _ h3
end
end Go.Proofs.YtofllgbdphakiaaGreat
end

section
namespace Go.Proofs.YtofllgbdphakiaaGreat
open Go.Den Go.Disk
theorem absorb {P Q R I I' : HP} {w0 w : World} {F0 : List Nat} (h : At w0 F0 (stars [P, Q, R, I]) w) (hI : ∀ A B, P.p w A → I.p w B → I'.p w (B ++ A)) : At w0 F0 (stars [Q, R, I']) w := by
  refine At.mono2 h fun F hF => ?_
  obtain ⟨A, _, n2, ⟨A2, _, hp, ⟨A3, _, hs, ⟨A4, _, hi, ⟨_, rfl⟩, rfl, d4⟩, rfl, d3⟩, rfl, d2⟩, rfl, d1⟩ := hF
  refine ⟨A2 ++ (A3 ++ ((A4 ++ A) ++ [])), ⟨A2, _, hp, ⟨A3, _, hs, ⟨A4 ++ A, [], hI _ _ n2 hi, ⟨trivial, rfl⟩, rfl, by simp⟩, rfl, fun b hb hb' => ?_⟩, rfl, fun b hb hb' => ?_⟩, fun b hb => ?_⟩
  · simp only [List.append_nil, List.mem_append] at hb'
    rcases hb' with hb' | hb'
    · exact d3 b hb (by simp [hb'])
    · exact d1 b hb' (by simp [hb])
  · simp only [List.append_nil, List.mem_append] at hb'
    rcases hb' with hb' | hb' | hb'
    · exact d2 b hb (by simp [hb'])
    · exact d2 b hb (by simp [hb'])
    · exact d1 b hb' (by simp [hb])
  · simp only [List.append_nil, List.mem_append] at hb ⊢
    rcases hb with hb | hb | hb | hb <;> simp [hb]
section
variable {w0 w w' : World} {F0 : List Nat} {d : Nat} {s : Dk} {fv dv : Value} {fc : List (SV × Nat)} {es : List SV} {f : Nat} {x : Fl}
/-- where a file's row stands, how it reads, and is changed. -/
theorem rf_spot (h : At w0 F0 (stars (rfL d s fv dv fc es)) w) (hx : s.files[f]? = some x) : ∃ (b : Nat) (v : SV), iaddr 2 fv (.int .i64 (f : Int)) = some (.pointer (some ⟨b, f * 2, none⟩)) ∧
    (∀ w', Fr [] w w' → load1 w' (.pointer (some ⟨d, 1, none⟩)) = some fv ∧ load1 w' (.pointer (some ⟨b, f * 2 + 0, none⟩)) = some v.v ∧ load1 w' (.pointer (some ⟨b, f * 2 + 1, none⟩)) = some (.int .i64 (x.sure : Int)) ∧ loadn 2 w' (.pointer (some ⟨b, f * 2, none⟩)) = some (.agg #[v.v, .int .i64 (x.sure : Int)]) ∧ ∃ G, Slc encB 1 w' v.v x.b G) ∧
    (∀ w' v' G' bs K, Fr [] w w' → Slc encB 1 w' (SV.v v') bs G' → (∀ b ∈ G', hsz w ≤ b) → (∀ w'', At w0 F0 (stars (rfL d (setF s f ⟨bs, x.sure⟩) fv dv (fc.set f (v', x.sure)) es)) w'' → K w'') → BND (storev 1 w' (.pointer (some ⟨b, f * 2 + 0, none⟩)) (SV.v v')) K) ∧
    (∀ w' (k : Nat) K, Fr [] w w' → (∀ w'', At w0 F0 (stars (rfL d (setF s f ⟨x.b, k⟩) fv dv (fc.set f (v, k)) es)) w'' → K w'') → BND (storev 1 w' (.pointer (some ⟨b, f * 2 + 1, none⟩)) (.int .i64 (k : Int))) K) ∧
    (∀ w' v' G' bs (k : Nat) K, Fr [] w w' → Slc encB 1 w' (SV.v v') bs G' → (∀ b ∈ G', hsz w ≤ b) → (∀ w'', At w0 F0 (stars (rfL d (setF s f ⟨bs, k⟩) fv dv (fc.set f (v', k)) es)) w'' → K w'') → BND (storev 2 w' (.pointer (some ⟨b, f * 2, none⟩)) (.agg #[SV.v v', .int .i64 (k : Int)])) K) := by
  obtain ⟨T, c⟩ := h.cell (i := 0) rfl
  obtain ⟨F, ⟨_, _, _, ⟨hfl, hF⟩⟩, _⟩ := h.get 2 rfl
  obtain ⟨v, G, hv, sb, _⟩ := hF f x hx
  obtain ⟨Ff, sf, _⟩ := h.slc1 (i := 1) rfl
  have hlt : f < fc.length := (List.getElem?_eq_some_iff.1 hv).1
  obtain ⟨b, rfl, ia⟩ := sf.iaddr hlt .i64
  have same : ∀ {w'}, Fr [] w w' → ∀ {A}, Slc encG 2 w' fv fc A → A = [b] := fun fr A sA => by
    obtain ⟨b', rfl, ia'⟩ := sA.iaddr hlt .i64
    rw [ia] at ia'
    simp only [Option.some.injEq, Value.pointer.injEq, Addr.mk.injEq] at ia'
    rw [ia'.1]
  refine ⟨b, v, ia, fun w' fr => ?_, fun w' v' G' bs K fr sv hg hK => ?_, fun w' k K fr hK => ?_, fun w' v' G' bs k K fr sv hg hK => ?_⟩
  · have sf' := sf.fr fr (by simp)
    have c' := fr.some (by simp) c
    have q0 := sf'.load1 (i := f) (j := 0) hv (by omega)
    have q1 := sf'.load1 (i := f) (j := 1) hv (by omega)
    have ld : ∀ j u, (encG (v, x.sure))[j]? = some u → load1 w' (.pointer (some ⟨b, f * 2 + j, none⟩)) = some u := fun j u hu => by
      have hj : j < 2 := by have := (List.getElem?_eq_some_iff.1 hu).1; simpa [encG] using this
      rw [sf'.load1 (i := f) (j := j) hv hj, hu]
    obtain ⟨cap, cc, TT, _, hb, hc, hs, he⟩ := sf'.cells rfl
    refine ⟨load1_at c' rfl, ld 0 _ rfl, ld 1 _ rfl, ?_, G, sb.fr fr (by simp)⟩
    obtain ⟨b2, o2, i2, l2, _, _⟩ := sf'.arr.spot hv rfl .i64
    rw [ia] at i2
    cases i2
    exact l2
  · have ha := h.add fr (P := slc encB 1 (SV.v v') bs) sv hg
    obtain ⟨A, sA, upd⟩ := ha.upd 2 rfl
    replace sA : Slc encG 2 w' fv fc A := sA
    obtain rfl := same fr sA
    obtain ⟨w2, e2, s2, f2, _⟩ := sA.set1 (j := 0) (y := (v', x.sure)) (u := SV.v v') hv (by omega) (by intro m hm; rcases m with _ | _ | m <;> first | (simp [encG]; done) | omega) rfl rfl
    refine BND_step e2 (hK w2 (absorb (upd w2 [b] (slc encG 2 fv (fc.set f (v', x.sure))) s2 f2 (fun _ hb => .inl hb)) fun A B hA hB => ?_))
    obtain ⟨i1, ⟨G5, i2, i3⟩, i4, i5⟩ := hB
    replace hA : Slc encB 1 w2 (SV.v v') bs A := hA
    refine ⟨fun b hb => ?_, ⟨G5, i2, fun b hb => by simp [i3 b hb]⟩, i4.sub fun b hb => by simp [hb], (i5.sub fun b hb => by simp [hb]).set (x := ⟨bs, x.sure⟩) hA (fun b hb => by simp [hb])⟩
    rcases List.mem_append.1 hb with hb | hb
    · exact i1 b hb
    · exact hA.lt b hb
  · have ha := h.add fr (P := emp) ⟨trivial, rfl⟩ (A := []) (by simp)
    obtain ⟨A, sA, upd⟩ := ha.upd 2 rfl
    replace sA : Slc encG 2 w' fv fc A := sA
    obtain rfl := same fr sA
    obtain ⟨w2, e2, s2, f2, _⟩ := sA.set1 (j := 1) (y := (v, k)) (u := .int .i64 (k : Int)) hv (by omega) (by intro m hm; rcases m with _ | _ | m <;> first | (simp [encG]; done) | omega) rfl rfl
    refine BND_step e2 (hK w2 (absorb (upd w2 [b] (slc encG 2 fv (fc.set f (v, k))) s2 f2 (fun _ hb => .inl hb)) fun A B hA hB => ?_))
    obtain ⟨_, rfl⟩ := hA
    obtain ⟨i1, ⟨G5, i2, i3⟩, i4, i5⟩ := hB
    obtain ⟨v2, G2, hv2, sb2, g2⟩ := i5.2 f x hx
    rw [hv] at hv2
    cases hv2
    rw [List.append_nil]
    exact ⟨i1, ⟨G5, i2, i3⟩, i4, i5.set (x := ⟨x.b, k⟩) sb2 g2⟩
  · have ha := h.add fr (P := slc encB 1 (SV.v v') bs) sv hg
    obtain ⟨A, sA, upd⟩ := ha.upd 2 rfl
    replace sA : Slc encG 2 w' fv fc A := sA
    obtain rfl := same fr sA
    obtain ⟨w2, e2, s2, f2, _⟩ := sA.set (x := (v', k)) hlt rfl (encG_one _) (by omega)
    refine BND_step e2 (hK w2 (absorb (upd w2 [b] (slc encG 2 fv (fc.set f (v', k))) s2 f2 (fun _ hb => .inl hb)) fun A B hA hB => ?_))
    obtain ⟨i1, ⟨G5, i2, i3⟩, i4, i5⟩ := hB
    replace hA : Slc encB 1 w2 (SV.v v') bs A := hA
    refine ⟨fun b hb => ?_, ⟨G5, i2, fun b hb => by simp [i3 b hb]⟩, i4.sub fun b hb => by simp [hb], (i5.sub fun b hb => by simp [hb]).set (x := ⟨bs, k⟩) hA (fun b hb => by simp [hb])⟩
    rcases List.mem_append.1 hb with hb | hb
    · exact i1 b hb
    · exact hA.lt b hb
end
set_option linter.unusedSimpArgs false
set_option linter.unusedVariables false
set_option maxRecDepth 20000
set_option maxHeartbeats 4000000
attribute [local congr] BND_cg COND_cg GEF_cg
attribute [local irreducible] capl slicea load1 loadn iaddr iaddra faddr storev newslice binv lookv mupd mdel mlenv mentry mestore slicev slicev3 slices indexs indexav textv rangev nexts clearv shiftv eqaggv convi buildv pickv lens lenl unv nilchk extractv partn JOIN
section
variable {w0 w w' : World} {F0 : List Nat} {d : Nat} {s : Dk} {R : Value → World → Prop}
theorem rf_Read (h : At w0 F0 (rfHP d s) w) (hw : s.Wf) (hn : s.dirs.length < 1000000000) (n : ByteArray) (hR : ∀ w' v G, At w0 F0 (rfHP d s) w' → Slc encB 1 w' v (Disk.read s n).1 G → (∀ b ∈ G, hsz w ≤ b) → Fr [] w w' → R (.tuple #[v, .int .i64 (Disk.read s n).2]) w') : CALL PR F_tumbrelref06_Disk_Read [ptrTo d, .string n] w R := by
  obtain ⟨fv, dv, fc, es, hs⟩ := rf_open h
  refine C_tumbrelref06_Disk_Read ?_
  unfold M_tumbrelref06_Disk_Read
  unfold Disk.read at hR
  obtain ⟨T, c⟩ := hs.cell (i := 0) rfl
  cases hg : s.gone with
  | true =>
    unfold rfC at c
    rw [hg] at hR c
    unfold ptrTo
    (repeat refine gg ?_)
    exact hR w _ [] h (Slc.nil _ _ _) (by simp) (Fr.refl _ _)
  | false =>
    rw [hg] at hR
    unfold rfC at c
    rw [hg] at c
    unfold ptrTo
    (repeat refine gg ?_)
    refine rf_find h hw hn n fun w1 f1 => ?_
    cases hf : s.find n with
    | none =>
      rw [hf] at hR
      have e1 : numOf (none : Option Nat) = -1 := rfl
      rw [e1]
      (repeat refine gg ?_)
      exact hR w1 _ [] (h.fr0 f1) (Slc.nil _ _ _) (by simp) f1
    | some f =>
      rw [hf] at hR
      have e1 : numOf (some f) = (f : Int) := rfl
      rw [e1]
      have hx := wf_pick hw hf
      obtain ⟨b, v, ia, rd, _⟩ := rf_spot hs hx
      (repeat refine gg ?_)
      refine newnil_step encB fun t w2 s2 f2 z2 => ?_
      obtain ⟨l1, l2, _, _, Gb, sb⟩ := rd w2 (f1.trans' f2)
      have hsm := hw.small _ (List.mem_of_getElem? hx)
      have hrm := hw.room
      (repeat refine gg ?_)
      refine APPEND_slc s2 (sb.loads encB_len) encB_len encB_one rfl (by simp; omega) (by simp; omega) fun v3 w3 G3 s3 f3 sub3 => ?_
      rw [List.nil_append] at s3
      have f03 : Fr [] w w3 := (f1.trans' f2).trans f3 fun b hb => .inr (by have := f1.grow; simp at hb; omega)
      (repeat refine gg ?_)
      refine hR w3 v3 G3 (h.fr0 f03) s3 (fun b hb => ?_) f03
      have := f1.grow
      rcases sub3 b hb with hq | hq
      · simp at hq; omega
      · omega
theorem rf_Names (h : At w0 F0 (rfHP d s) w) (hw : s.Wf) (hn : s.dirs.length < 1000000000) (hR : ∀ w' v G, At w0 F0 (rfHP d s) w' → Slc encN 1 w' v (s.now.map (·.1)) G → (∀ b ∈ G, hsz w ≤ b) → Fr [] w w' → R v w') : CALL PR F_tumbrelref06_Disk_Names [ptrTo d] w R := by
  obtain ⟨fv, dv, fc, es, hs⟩ := rf_open h
  refine C_tumbrelref06_Disk_Names ?_
  unfold M_tumbrelref06_Disk_Names
  have h60 := hw.many _ (now_mem hw)
  refine newnil_step encN fun t w1 s1 f1 z1 => ?_
  obtain ⟨F, ⟨_, _, ⟨_, hE⟩, _⟩, _⟩ := hs.get 2 rfl
  obtain ⟨e0, Ge, he0, se0, _⟩ := hE _ _ (dk_now_get hw.ne)
  refine rf_now (hs.fr0 f1) hw.ne hn fun e _ he _ => ?_
  rw [he0] at he
  cases he
  have f2 := f1.trans' (Fr.drew [] w1)
  have se := se0.fr f2 (by simp)
  refine loop_up2 (o := t) 0 s.now.length (fun o i w' => ∃ H, Slc encN 1 w' o ((s.now.take i).map (·.1)) H ∧ (∀ b ∈ H, hsz w ≤ b) ∧ Fr [] w w' ∧ Slc encE 2 w' e0.v s.now Ge ∧ ∀ b ∈ Ge, b ∉ H) ⟨[hsz w], s1.fr (Fr.drew [] w1) (by simp), by simp, f2, se, fun b hb hb' => by have := se0.lt b hb; simp at hb'; omega⟩ (by omega) ?_
  rintro o i w3 - hi ⟨H, s3, h3, f3, se3, hd⟩ J m hJ
  by_cases hlt : i < s.now.length
  · have hx := List.getElem?_eq_getElem hlt
    generalize s.now[i] = x at hx
    obtain ⟨b, o2, ia, _, _, l1⟩ := se3.arr.spot hx rfl .i64
    (repeat (first | refine BND_step se3.len ?_ | (apply BND_step; exact (l1 (w' := w3) rfl (j := 0) rfl)) | refine gg ?_))
    refine push_step (enc := encN) (x := x.1) s3 encN_len encN_one rfl rfl (by omega) (by simp; omega) fun v4 w4 G4 s4 g4 f4 => ?_
    (repeat refine gg ?_)
    refine hJ _ _ hlt ⟨G4, ?_, fun b hb => ?_, f3.trans f4 fun b hb => .inr (h3 b hb), se3.fr f4 hd, fun b hb hb' => ?_⟩
    · rw [List.take_add_one, hx, List.map_append]; exact s4
    · rcases g4 b hb with hq | hq
      · exact h3 b hq
      · have := f3.grow; omega
    · rcases g4 b hb' with hq | hq
      · exact hd b hb hq
      · have := se3.lt b hb; omega
  · (repeat (first | refine BND_step se3.len ?_ | refine gg ?_))
    rw [List.take_of_length_le (by omega)] at s3
    exact hR w3 o H (h.fr0 f3) s3 h3 f3
theorem rf_Sync (h : At w0 F0 (rfHP d s) w) (hw : s.Wf) (hn : s.dirs.length < 1000000000) (n : ByteArray) (hR : ∀ w', At w0 F0 (rfHP d (sync s n).1) w' → R (.int .i64 (sync s n).2) w') : CALL PR F_tumbrelref06_Disk_Sync [ptrTo d, .string n] w R := by
  refine C_tumbrelref06_Disk_Sync ?_
  unfold M_tumbrelref06_Disk_Sync
  refine rf_find h hw hn n fun w1 f1 => ?_
  have h1 := h.fr0 f1
  (repeat refine gg ?_)
  refine join_v (Q := fun v w' => v = .int .i64 (there s n) ∧ w' = w1) (fun k hk => ?_) ?_
  · rw [there_num] at hk
    by_cases hf : numOf (s.find n) < 0
    · (repeat refine gg ?_)
      exact hk _ _ ⟨by rw [if_pos hf], rfl⟩
    · (repeat refine gg ?_)
      exact hk _ _ ⟨by rw [if_neg hf], rfl⟩
  rintro _ _ ⟨rfl, rfl⟩
  refine rf_can h1 _ hw.burn fun w3 h3 => ?_
  unfold sync at hR
  by_cases hc : (can s (there s n)).2 = 0
  · simp only [hc, if_true] at hR
    rw [hc]
    obtain ⟨f, hf⟩ : ∃ f, s.find n = some f := by
      have h0 := can_zero hc
      rw [there_num] at h0
      cases hq : s.find n with
      | none => rw [hq] at h0; simp [numOf] at h0
      | some f => exact ⟨f, rfl⟩
    rw [hf] at hR ⊢
    have e1 : numOf (some f) = (f : Int) := rfl
    rw [e1]
    simp only [Option.getD_some] at hR
    obtain ⟨k1, k2, k3⟩ := can_keep s (there s n)
    have hx := wf_pick hw hf
    generalize (can s (there s n)).1 = s1 at *
    (repeat refine gg ?_)
    refine join_w (fun w' => At w0 F0 (rfHP d (setF s1 f { fileAt s f with sure := (fileAt s f).b.length })) w') (fun K hK => ?_) (fun w' hw' => hR w' hw')
    obtain ⟨fv, dv, fc, es, hs⟩ := rf_open h3
    obtain ⟨b, v, ia, rd, _, st, _⟩ := rf_spot hs (f := f) (by rw [k1]; exact hx)
    obtain ⟨l1, l2, _, _, Gb, sb⟩ := rd w3.drew (Fr.drew _ _)
    unfold ptrTo
    (repeat (first | refine BND_step sb.len ?_ | refine gg ?_))
    refine st w3.drew _ _ (Fr.drew _ _) fun w5 h5 => ?_
    (repeat refine gg ?_)
    exact hK _ (rf_shut h5)
  · simp only [hc, if_false] at hR
    (repeat refine gg ?_)
    refine join_w (fun w' => At w0 F0 (rfHP d (can s (there s n)).1) w') (fun K hK => ?_) (fun w' hw' => hR w' hw')
    (repeat refine gg ?_)
    exact hK _ h3
end
end Go.Proofs.YtofllgbdphakiaaGreat
end

section
namespace Go.Proofs.YtofllgbdphakiaaGreat
open Go.Den Go.Disk
theorem heldG_le {s : Dk} (hw : s.Wf) (i : Nat) : heldG s i ≤ 1048576 := by
  unfold heldG
  split
  · unfold fileAt
    rw [List.getD_eq_getElem?_getD]
    cases h : s.files[i]? with
    | none => simp
    | some x =>
      have := hw.small _ (List.mem_of_getElem? h)
      have := hw.room
      simp; omega
  · omega
theorem sumTo_small {s : Dk} (hw : s.Wf) : ∀ i, sumTo i (heldG s) ≤ i * 1048576
  | 0 => by simp [sumTo]
  | i + 1 => by
    rw [sumTo_succ]
    have := sumTo_small hw i
    have := heldG_le hw i
    rw [Nat.add_mul]; omega
set_option linter.unusedSimpArgs false
set_option linter.unusedVariables false
set_option maxRecDepth 20000
set_option maxHeartbeats 4000000
attribute [local congr] BND_cg COND_cg GEF_cg
attribute [local irreducible] capl slicea load1 loadn iaddr iaddra faddr storev newslice binv lookv mupd mdel mlenv mentry mestore slicev slicev3 slices indexs indexav textv rangev nexts clearv shiftv eqaggv convi buildv pickv lens lenl unv nilchk extractv partn JOIN
section
variable {w0 w w' : World} {F0 : List Nat} {d : Nat} {s : Dk} {R : Value → World → Prop}
theorem rf_Held (h : At w0 F0 (rfHP d s) w) (hw : s.Wf) (hn : s.dirs.length < 1000000000) (hn2 : s.files.length < 1000000000) (hR : ∀ w', Fr [] w w' → R (.int .i64 (held s : Nat)) w') : CALL PR F_tumbrelref06_Disk_Held [ptrTo d] w R := by
  obtain ⟨fv, dv, fc, es, hs⟩ := rf_open h
  refine C_tumbrelref06_Disk_Held ?_
  unfold M_tumbrelref06_Disk_Held
  obtain ⟨T, c⟩ := hs.cell (i := 0) rfl
  obtain ⟨F, ⟨_, ⟨Gd, sd, _⟩, ⟨hel, hE⟩, ⟨hfl, hF⟩⟩, _⟩ := hs.get 2 rfl
  obtain ⟨Ff, sf, _⟩ := hs.slc1 (i := 1) rfl
  have lf := sf.len
  have ldl := sd.len
  rw [hfl] at lf
  rw [hel] at ldl
  unfold ptrTo
  refine loop_up2 (o := .int .i64 0) 0 s.files.length (fun o i w' => o = .int .i64 ((sumTo i (heldG s) : Nat) : Int) ∧ w' = w) ⟨rfl, rfl⟩ (by omega) ?_
  rintro o f w1 - hi ⟨rfl, rfl⟩ J m hJ
  have hsmall := sumTo_small hw f
  by_cases hlt : f < s.files.length
  · have hx := List.getElem?_eq_getElem hlt
    generalize s.files[f] = x at hx
    have hfx : fileAt s f = x := by unfold fileAt; rw [List.getD_eq_getElem?_getD, hx]; rfl
    have hxs := hw.small _ (List.mem_of_getElem? hx)
    have hrm := hw.room
    obtain ⟨v, Gb, hv, sb, _⟩ := hF f x hx
    (repeat refine gg ?_)
    refine loop_up2 (o := .bool false) 0 s.dirs.length (fun o k w' => o = .bool ((s.dirs.take k).any fun l => l.any fun y => decide (y.2 = f)) ∧ w' = w1) ⟨rfl, rfl⟩ (by omega) ?_
    rintro o k w2 - hk ⟨rfl, rfl⟩ J2 m2 hJ2
    by_cases hlt2 : k < s.dirs.length
    · have hl := List.getElem?_eq_getElem hlt2
      have hlm := List.getElem_mem hlt2
      generalize s.dirs[k] = l at hl hlm
      obtain ⟨e, Ge, he, se, _⟩ := hE k l hl
      obtain ⟨b1, o1, i1, _, _, l1⟩ := sd.arr.spot he rfl .i64
      have h60 := hw.many _ hlm
      (repeat refine gg ?_)
      refine loop_up2 (o := .bool ((s.dirs.take k).any fun l => l.any fun y => decide (y.2 = f))) 0 l.length (fun o a w' => o = .bool (((s.dirs.take k).any fun l => l.any fun y => decide (y.2 = f)) || (l.take a).any fun y => decide (y.2 = f)) ∧ w' = w2) ⟨by simp, rfl⟩ (by omega) ?_
      rintro o a w3 - ha ⟨rfl, rfl⟩ J3 m3 hJ3
      by_cases hlt3 : a < l.length
      · have hy := List.getElem?_eq_getElem hlt3
        generalize l[a] = y at hy
        obtain ⟨b2, o2, i2, _, _, l2⟩ := se.arr.spot hy rfl .i64
        have hst : (((s.dirs.take k).any fun l => l.any fun y => decide (y.2 = f)) || (l.take (a + 1)).any (fun y => decide (y.2 = f))) = ((((s.dirs.take k).any fun l => l.any fun y => decide (y.2 = f)) || (l.take a).any fun y => decide (y.2 = f)) || decide (y.2 = f)) := by
          rw [List.take_add_one, hy, List.any_append]; simp [Bool.or_assoc]
        cases hp : (((s.dirs.take k).any fun l => l.any fun y => decide (y.2 = f)) || (l.take a).any fun y => decide (y.2 = f)) with
        | true =>
          rw [hp] at hst hJ3
          (repeat (first | (apply BND_step; exact (l1 (w' := w3) rfl (j := 0) rfl)) | refine BND_step se.len ?_ | refine gg ?_))
          exact hJ3 (.bool true) _ hlt3 ⟨by rw [hst]; rfl, rfl⟩
        | false =>
          rw [hp, Bool.false_or] at hst
          rw [hp] at hJ3
          (repeat (first | (apply BND_step; exact (l1 (w' := w3) rfl (j := 0) rfl)) | refine BND_step se.len ?_ | (apply BND_step; exact (l2 (w' := w3) rfl (j := 1) rfl)) | refine gg ?_))
          exact hJ3 (.bool (decide ((y.2 : Int) = (f : Int)))) _ hlt3 ⟨by rw [hst]; congr 1; simp [Int.ofNat_inj], rfl⟩
      · (repeat (first | (apply BND_step; exact (l1 (w' := w3) rfl (j := 0) rfl)) | refine BND_step se.len ?_ | refine gg ?_))
        refine hJ2 _ _ hlt2 ⟨?_, rfl⟩
        rw [List.take_of_length_le (by omega : l.length ≤ a), List.take_add_one, hl, List.any_append]
        simp
    · (repeat refine gg ?_)
      rw [List.take_of_length_le (by omega)]
      have hst : sumTo (f + 1) (heldG s) = sumTo f (heldG s) + (if (s.dirs.any fun l => l.any fun y => decide (y.2 = f)) = true then x.b.length else 0) := by
        rw [sumTo_succ]; unfold heldG isHeld; rw [hfx]
      cases hp : s.dirs.any fun l => l.any fun y => decide (y.2 = f) with
      | true =>
        rw [hp] at hst
        simp only [if_true] at hst
        refine join_v (Q := fun v w' => v = .int .i64 ((sumTo (f + 1) (heldG s) : Nat) : Int) ∧ w' = w2) (fun k hk => ?_) ?_
        · obtain ⟨b1, o1, i1, _, _, l1⟩ := sf.arr.spot hv rfl .i64
          (repeat (first | (apply BND_step; exact (l1 (w' := w2) rfl (j := 0) rfl)) | refine BND_step sb.len ?_ | refine BND_step (addn_ (n := sumTo f (heldG s)) (m := x.b.length) (by omega)) ?_ | refine gg ?_))
          exact hk _ _ ⟨by rw [hst], rfl⟩
        · rintro v w' ⟨rfl, rfl⟩
          (repeat refine gg ?_)
          exact hJ _ _ hlt ⟨rfl, rfl⟩
      | false =>
        rw [hp] at hst
        simp only [Bool.false_eq_true, if_false, Nat.add_zero] at hst
        refine join_v (Q := fun v w' => v = .int .i64 ((sumTo (f + 1) (heldG s) : Nat) : Int) ∧ w' = w2) (fun k hk => ?_) ?_
        · (repeat refine gg ?_)
          exact hk _ _ ⟨by rw [hst], rfl⟩
        · rintro v w' ⟨rfl, rfl⟩
          (repeat refine gg ?_)
          exact hJ _ _ hlt ⟨rfl, rfl⟩
  · obtain rfl : f = s.files.length := by omega
    (repeat refine gg ?_)
    exact hR _ (Fr.refl _ _)
theorem rf_Append (h : At w0 F0 (rfHP d s) w) (hw : s.Wf) (hn : s.dirs.length < 1000000000) (hn2 : s.files.length < 1000000000) (n : ByteArray) {u : Value} {bs : List UInt8} (hbs : bs.length < 1000000000) (hul : lenl u = some (.int .i64 bs.length))
    (hu : ∀ w', Fr F0 w0 w' → cellsOfArg w' 1 u = some (flat encB bs, bs.length)) (hR : ∀ w', At w0 F0 (rfHP d (append s n bs).1) w' → R (.int .i64 (append s n bs).2) w') : CALL PR F_tumbrelref06_Disk_Append [ptrTo d, .string n, u] w R := by
  refine C_tumbrelref06_Disk_Append ?_
  unfold M_tumbrelref06_Disk_Append
  refine rf_find h hw hn n fun w1 f1 => ?_
  have h1 := h.fr0 f1
  have hsmall := sumTo_small hw s.files.length
  rw [← held_sum] at hsmall
  have hrm := hw.room
  (repeat refine gg ?_)
  refine join_v (Q := fun v w' => v = .int .i64 (appendE s n bs.length) ∧ Fr [] w1 w') (fun k hk => ?_) ?_
  · unfold appendE at hk
    cases hf : s.find n with
    | none =>
      rw [hf] at hk
      have e1 : numOf (none : Option Nat) = -1 := rfl
      rw [e1]
      (repeat refine gg ?_)
      exact hk _ _ ⟨rfl, Fr.refl _ _⟩
    | some f =>
      rw [hf] at hk
      simp only [Option.isSome_some, if_true] at hk
      have e1 : numOf (some f) = (f : Int) := rfl
      rw [e1]
      obtain ⟨fv, dv, fc, es, hs⟩ := rf_open h1
      obtain ⟨T, c⟩ := hs.cell (i := 0) rfl
      have cd : blk w1.drew d = some (.cells (rfC s fv dv).toArray T (0, 0)) := c
      unfold ptrTo
      (repeat refine gg ?_)
      refine ⟨fun _ w' => blk w' d = some (.cells (rfC s fv dv).toArray T (0, 0)), cd, ?_⟩
      (repeat refine gg ?_)
      refine rf_Held (h1.fr0 (Fr.drew _ _)) hw hn hn2 fun w9 f9 => ?_
      refine ⟨f9.some (by simp) cd, ?_⟩
      (repeat (first | refine BND_step (addn_ (n := held s) (m := bs.length) (by omega)) ?_ | refine gg ?_))
      have f19 := (Fr.drew [] w1).trans' f9
      by_cases hq : s.room < ((held s + bs.length : Nat) : Int)
      · rw [if_pos hq] at hk
        (repeat refine gg ?_)
        refine join_v (Q := fun v w' => v = .int .i64 4 ∧ w' = w9) (fun k2 hk2 => ?_) ?_
        · (repeat refine gg ?_)
          exact hk2 _ _ ⟨rfl, rfl⟩
        · rintro _ _ ⟨rfl, rfl⟩
          exact hk _ _ ⟨rfl, f19⟩
      · rw [if_neg hq] at hk
        (repeat refine gg ?_)
        refine join_v (Q := fun v w' => v = .int .i64 0 ∧ w' = w9) (fun k2 hk2 => ?_) ?_
        · (repeat refine gg ?_)
          exact hk2 _ _ ⟨rfl, rfl⟩
        · rintro _ _ ⟨rfl, rfl⟩
          exact hk _ _ ⟨rfl, f19⟩
  rintro _ w2 ⟨rfl, f2⟩
  refine rf_can (h1.fr0 f2) _ hw.burn fun w3 h3 => ?_
  unfold append at hR
  by_cases hc : (can s (appendE s n bs.length)).2 = 0
  · simp only [hc, if_true] at hR
    rw [hc]
    obtain ⟨f, hf⟩ : ∃ f, s.find n = some f := by
      have h0 := can_zero hc
      unfold appendE at h0
      cases hq : s.find n with
      | none => rw [hq] at h0; simp at h0
      | some f => exact ⟨f, rfl⟩
    rw [hf] at hR ⊢
    have e1 : numOf (some f) = (f : Int) := rfl
    rw [e1]
    simp only [Option.getD_some] at hR
    obtain ⟨k1, k2, k3⟩ := can_keep s (appendE s n bs.length)
    have hx := wf_pick hw hf
    have hsm := hw.small _ (List.mem_of_getElem? hx)
    generalize (can s (appendE s n bs.length)).1 = s1 at *
    (repeat refine gg ?_)
    refine join_w (fun w' => At w0 F0 (rfHP d (setF s1 f { fileAt s f with b := (fileAt s f).b ++ bs })) w') (fun K hK => ?_) (fun w' hw' => hR w' hw')
    refine cyes rfl ?_
    (repeat refine gg ?_)
    obtain ⟨fv, dv, fc, es, hs⟩ := rf_open h3
    obtain ⟨b, v, ia, rd, st, _⟩ := rf_spot hs (f := f) (by rw [k1]; exact hx)
    have e3 : hsz w3.drew = hsz w3 := rfl
    refine ⟨fun _ w' => Fr [] w3.drew w', Fr.refl _ _, Fr.refl _ _, Fr.refl _ _, ?_⟩
    have rd' : ∀ w', Fr [] w3.drew w' → _ := fun w' hw => rd w' ((Fr.drew [] w3).trans' hw)
    unfold ptrTo
    (repeat (first | refine gg ?_ | refine FLT.mk _ (fun _ hw_ => (rd' _ hw_).1) ?_))
    refine FLT.mk _ (fun _ hw_ => (rd' _ hw_).2.1) ?_
    refine newnil_step encB fun t w5 s5 f5 z5 => ?_
    refine ⟨f5, f5, f5, ?_⟩
    obtain ⟨_, _, _, _, Gb, sb⟩ := rd' w5 f5
    refine APPEND_slc s5 (sb.loads encB_len) encB_len encB_one rfl (by simp; omega) (by simp; omega) fun v6 w6 G6 s6 f6 sub6 => ?_
    rw [List.nil_append] at s6
    have f56 := f5.trans f6 fun b hb => .inr (by simp at hb; omega)
    have g6 : ∀ b ∈ G6, hsz w3 ≤ b := fun b hb => by
      rcases sub6 b hb with hq | hq
      · simp at hq; omega
      · omega
    refine ⟨f56, ?_⟩
    have fw6 : Fr F0 w0 w6 := (h3.frame.trans' (Fr.drew [] w3).nil).trans' f56.nil
    refine APPEND_slc s6 (hu w6 fw6) encB_len encB_one rfl (by omega) (by omega) fun v7 w7 G7 s7 f7 sub7 => ?_
    have f57 := f56.trans f7 fun b hb => .inr (g6 b hb)
    refine ⟨f57, ?_⟩
    obtain ⟨e7, rfl⟩ := slc_sv s7
    (repeat refine gg ?_)
    refine st w7 e7 G7 _ _ ((Fr.drew [] w3).trans' f57) s7 (fun b hb => ?_) fun w8 h8 => hK _ (rf_shut h8)
    have := f56.grow
    rcases sub7 b hb with hq | hq
    · exact g6 b hq
    · omega
  · simp only [hc, if_false] at hR
    (repeat refine gg ?_)
    refine join_w (fun w' => At w0 F0 (rfHP d (can s (appendE s n bs.length)).1) w') (fun K hK => ?_) (fun w' hw' => hR w' hw')
    (repeat refine gg ?_)
    exact hK _ h3
end
end Go.Proofs.YtofllgbdphakiaaGreat
end

section
namespace Go.Vint
open Go.Den
def horn : List UInt8 → Nat
  | [] => 0
  | c :: r => c.toNat % 128 + 128 * horn r
theorem horn_snoc : ∀ (l : List UInt8) (c : UInt8), horn (l ++ [c]) = horn l + 128 ^ l.length * (c.toNat % 128)
  | [], c => by simp [horn]
  | a :: l, c => by
    simp only [List.cons_append, horn, horn_snoc l c, List.length_cons]
    rw [Nat.mul_add, ← Nat.mul_assoc, Nat.pow_succ, Nat.mul_comm 128 (128 ^ l.length)]
    omega
theorem horn_lt : ∀ l : List UInt8, horn l < 128 ^ l.length
  | [] => by simp [horn]
  | a :: l => by
    have h := horn_lt l
    simp only [horn, List.length_cons, Nat.pow_succ]
    omega
theorem pow7 (i : Nat) : 2 ^ (7 * (i + 1)) = 128 * 2 ^ (7 * i) := by
  rw [Nat.mul_add, Nat.pow_add]
  show 2 ^ (7 * i) * 128 = _
  omega
theorem getL_lead : ∀ (j : Nat) (b : List UInt8) (i n : Nat), (∀ t, t < j → ∃ c, b[t]? = some c ∧ 128 ≤ c.toNat) → i + j ≤ 9 → getL b i n = getL (b.drop j) (i + j) (n + horn (b.take j) * 2 ^ (7 * i))
  | 0, b, i, n, _, _ => by simp [horn]
  | j + 1, [], i, n, h, _ => by obtain ⟨c, hc, _⟩ := h 0 (by omega); simp at hc
  | j + 1, c :: r, i, n, h, hj => by
    obtain ⟨c', hc, h128⟩ := h 0 (by omega)
    simp at hc; subst hc
    have ih := getL_lead j r (i + 1) (n + c.toNat % 128 * 2 ^ (7 * i)) (fun t ht => by obtain ⟨x, hx, hx2⟩ := h (t + 1) (by omega); exact ⟨x, by simpa using hx, hx2⟩) (by omega)
    rw [getL, if_neg (by omega), if_pos h128, ih]
    simp only [List.drop_succ_cons, List.take_succ_cons, horn]
    rw [show i + 1 + j = i + (j + 1) by omega, pow7, Nat.add_mul, Nat.mul_comm 128 (horn _), Nat.mul_assoc, Nat.add_assoc]
theorem getV_lead {b : List UInt8} {j : Nat} (h : ∀ t, t < j → ∃ c, b[t]? = some c ∧ 128 ≤ c.toNat) (hj : j ≤ 9) : getV b = getL (b.drop j) j (horn (b.take j)) := by
  have := getL_lead j b 0 0 h (by omega)
  simpa [getV] using this
theorem drop_at {b : List UInt8} {m : Nat} {c : UInt8} (h : b[m]? = some c) : b.drop m = c :: b.drop (m + 1) ∧ b.take (m + 1) = b.take m ++ [c] := by
  have hl := (List.getElem?_eq_some_iff.1 h).1
  have he := (List.getElem?_eq_some_iff.1 h).2
  refine ⟨by rw [List.drop_eq_getElem_cons hl, he], by rw [List.take_add_one, h]; rfl⟩
theorem horn_small {b : List UInt8} {m k : Nat} {c : UInt8} (h : b[m]? = some c) (hm : m ≤ 9) (h9 : m = 9 → c.toNat ≤ 1) (hk : k ≤ m) : horn ((b.take (m + 1)).drop k) < 18446744073709551616 := by
  have hl := (List.getElem?_eq_some_iff.1 h).1
  have hlt : (b.take m).length = m := by rw [List.length_take]; omega
  rw [(drop_at h).2, List.drop_append_of_le_length (by omega), horn_snoc]
  have h1 := horn_lt ((b.take m).drop k)
  have hlen : ((b.take m).drop k).length = m - k := by rw [List.length_drop, hlt]
  rw [hlen] at h1 ⊢
  by_cases h8 : m ≤ 8
  · have h2 : 128 ^ (m - k) ≤ 128 ^ 8 := Nat.pow_le_pow_right (by omega) (by omega)
    have h3 : 128 ^ (m - k) * (c.toNat % 128) ≤ 128 ^ 8 * 127 := Nat.mul_le_mul h2 (by omega)
    have h4 : 128 ^ 8 = 72057594037927936 := by decide
    omega
  · have h2 : 128 ^ (m - k) ≤ 128 ^ 9 := Nat.pow_le_pow_right (by omega) (by omega)
    have h3 : 128 ^ (m - k) * (c.toNat % 128) ≤ 128 ^ 9 * 1 := Nat.mul_le_mul h2 (by have := h9 (by omega); omega)
    have h4 : 128 ^ 9 = 9223372036854775808 := by decide
    omega
end Go.Vint
namespace Go.Proofs.YtofllgbdphakiaaGreat
open Go.Den Go.Disk Go.Vint
theorem remU (x k : Nat) (hk : 0 < k) : binv .int .rem (.int .u64 (x : Int)) (.int .u64 (k : Int)) = some (.int .u64 ((x % k : Nat) : Int)) := by
  rw [binv_rem _ _ _ _ (by omega)]
  rfl
theorem quoU (x k : Nat) (hk : 0 < k) (hx : x < 18446744073709551616) : binv .int .quo (.int .u64 (x : Int)) (.int .u64 (k : Int)) = some (.int .u64 ((x / k : Nat) : Int)) := by
  rw [binv_quo _ _ _ _ (by omega)]
  have e : (x : Int).tdiv (k : Int) = ((x / k : Nat) : Int) := rfl
  have hd := Nat.div_le_self x k
  rw [e]
  generalize x / k = q at hd
  rw [wrap_u64 (by omega) (by omega)]
theorem addU {x y : Nat} (h : x + y < 18446744073709551616) : binv .int .add (.int .u64 (x : Int)) (.int .u64 (y : Int)) = some (.int .u64 ((x + y : Nat) : Int)) := by
  rw [binv_add, wrap_u64 (by omega) (by omega)]
  simp
theorem mulU {x y : Nat} (h : x * y < 18446744073709551616) : binv .int .mul (.int .u64 (x : Int)) (.int .u64 (y : Int)) = some (.int .u64 ((x * y : Nat) : Int)) := by
  have e : (x : Int) * (y : Int) = ((x * y : Nat) : Int) := by simp
  rw [binv_mul, e, wrap_u64 (by omega) (by omega)]
/-- a loop of something made, and a variable that counts down. -/
theorem loop_dn2 {B : (Value → Value → World → Prop) → (Value → Value → World → Nat) → Value → Value → World → Prop} {w : World} {o t : Value} (n : Nat) (I : Value → Nat → World → Prop) (ht : t = .int .i64 ((n : Int) - 1)) (h0 : I o n w)
    (h : ∀ o k w1, k ≤ n → I o k w1 → ∀ J m, (∀ o' w', 0 < k → I o' (k - 1) w' → J o' (.int .i64 ((k : Int) - 1 - 1)) w' ∧ m o' (.int .i64 ((k : Int) - 1 - 1)) w' < m o (.int .i64 ((k : Int) - 1)) w1) → B J m o (.int .i64 ((k : Int) - 1)) w1) :
    ∃ (J : Value → Value → World → Prop) (m : Value → Value → World → Nat), J o t w ∧ ∀ (_d : Env) (o t : Value) (w1 : World), J o t w1 → B J m o t w1 := by
  refine ⟨fun o t w' => ∃ i : Nat, t = .int .i64 ((i : Int) - 1) ∧ i ≤ n ∧ I o i w', fun _ t _ => match t with | .int _ k => (k + 1).toNat | _ => 0, ⟨n, ht, Nat.le_refl _, h0⟩, ?_⟩
  rintro _ o _ w1 ⟨i, rfl, h1, h3⟩
  exact h o i w1 h1 h3 _ _ fun o' w' h4 h5 => ⟨⟨i - 1, by congr 1; omega, by omega, h5⟩, by simp; omega⟩
set_option linter.unusedSimpArgs false
set_option linter.unusedVariables false
set_option maxRecDepth 20000
set_option maxHeartbeats 4000000
attribute [local congr] BND_cg COND_cg GEF_cg
attribute [local irreducible] capl slicea load1 loadn iaddr iaddra faddr storev newslice binv lookv mupd mdel mlenv mentry mestore slicev slicev3 slices indexs indexav textv rangev nexts clearv shiftv eqaggv convi buildv pickv lens lenl unv nilchk extractv partn JOIN
theorem r2_Put : ∀ (n : Nat), n < 18446744073709551616 → ∀ {w : World} {R : Value → World → Prop}, (∀ w' v G, Slc encB 1 w' v (layV n) G → (∀ b ∈ G, hsz w ≤ b) → Fr [] w w' → R v w') → CALL PR F_tumbrelref02_Put [.int .u64 (n : Int)] w R := by
  intro n
  induction n using Nat.strongRecOn with
  | _ n ih =>
    intro hn w R hR
    refine C_tumbrelref02_Put ?_
    unfold M_tumbrelref02_Put
    have key : ∀ m : Nat, convi .u8 (.int .u64 (m : Int)) = some (.int .u8 ((UInt8.ofNat m).toNat : Int)) := fun m => by rw [conv8n, UInt8.toNat_ofNat']
    by_cases h1 : n < 128
    · (repeat (first | refine BND_step (key n) ?_ | refine gg ?_))
      refine newone_step (enc := encB) (x := UInt8.ofNat n) (y := .int .u8 ((UInt8.ofNat n).toNat : Int)) encB_len rfl fun t w1 s1 f1 z1 => ?_
      rw [layV_lt h1] at hR
      exact hR _ _ _ s1 (by simp) f1
    · have e2 : binv .int .add (.int .u64 128) (.int .u64 ((n % 128 : Nat) : Int)) = some (.int .u64 ((n % 128 + 128 : Nat) : Int)) := by
        rw [Nat.add_comm]; exact addU (x := 128) (by omega)
      (repeat (first | refine BND_step (remU n 128 (by omega)) ?_ | refine BND_step (key _) ?_ | refine gg ?_))
      refine newone_step (enc := encB) (x := UInt8.ofNat (n % 128 + 128)) (y := .int .u8 ((UInt8.ofNat (n % 128 + 128)).toNat : Int)) encB_len rfl fun t w1 s1 f1 z1 => ?_
      (repeat (first | refine BND_step (quoU n 128 (by omega) hn) ?_ | refine gg ?_))
      refine ih (n / 128) (by omega) (by omega) fun w2 v2 G2 s2 g2 f2 => ?_
      have hl := layV_le (n / 128) (by omega)
      refine APPEND_slc (s1.fr f2 (by simp)) (s2.loads encB_len) encB_len encB_one rfl (by simp; omega) (by simp; omega) fun v3 w3 G3 s3 f3 g3 => ?_
      rw [layV_ge h1] at hR
      have gr1 := f1.grow
      have gr2 := f2.grow
      refine hR _ _ G3 s3 (fun b hb => ?_) ((f1.trans' f2).trans f3 fun b hb => .inr (by simp at hb; omega))
      rcases g3 b hb with h | h
      · simp at h; omega
      · omega
section
variable {w : World} {R : Value → World → Prop}
theorem r2_All {lv : Value} {ns : List Nat} (hl : Arr encU 1 w lv ns) (hs : ∀ n ∈ ns, n < 18446744073709551616) (hn : ns.length < 1000000) (hR : ∀ w' v G, Slc encB 1 w' v (ns.flatMap layV) G → (∀ b ∈ G, hsz w ≤ b) → Fr [] w w' → R v w') : CALL PR F_tumbrelref02_All [lv] w R := by
  refine C_tumbrelref02_All ?_
  unfold M_tumbrelref02_All
  refine newnil_step encB fun t w1 s1 f1 z1 => ?_
  refine loop_up2 (o := t) 0 ns.length (fun o i w' => ∃ G, Slc encB 1 w' o ((ns.take i).flatMap layV) G ∧ (∀ b ∈ G, hsz w ≤ b) ∧ Fr [] w w') ⟨_, s1, by simp, f1⟩ (by omega) ?_
  rintro o i w2 - hi ⟨G, s2, g2, f2⟩ J m hJ
  by_cases hlt : i < ns.length
  · have hx := List.getElem?_eq_getElem hlt
    have hm := List.getElem_mem hlt
    generalize ns[i] = n at hx hm
    obtain ⟨b1, o1, i1, _, _, l1⟩ := (hl.fr f2 (by simp)).spot hx rfl .i64
    (repeat (first | refine BND_step hl.len ?_ | refine BND_step (l1 (w' := w2) rfl (j := 0) rfl) ?_ | refine gg ?_))
    refine r2_Put n (hs n hm) fun w3 v3 G3 s3 g3 f3 => ?_
    have hl1 := layV_le n (hs n hm)
    have hl2 : ∀ l : List Nat, (∀ x ∈ l, x < 18446744073709551616) → (l.flatMap layV).length ≤ 10 * l.length := by
      intro l
      induction l with
      | nil => intro _; simp
      | cons a l ih =>
        intro h
        have h1 := layV_le a (h a (by simp))
        have h2 := ih fun x hx => h x (by simp [hx])
        simp only [List.flatMap_cons, List.length_append, List.length_cons]; omega
    have hl3 := hl2 (ns.take i) fun x hx => hs x (List.mem_of_mem_take hx)
    have hl4 : (ns.take i).length = i := by rw [List.length_take]; omega
    refine APPEND_slc (s2.fr f3 (by simp)) (s3.loads encB_len) encB_len encB_one rfl (by omega) (by omega) fun v4 w4 G4 s4 f4 g4 => ?_
    have gr2 := f2.grow
    have gr3 := f3.grow
    (repeat refine gg ?_)
    refine hJ _ _ hlt ⟨G4, ?_, fun b hb => ?_, (f2.trans' f3).trans f4 fun b hb => .inr (g2 b hb)⟩
    · have e : (ns.take (i + 1)).flatMap layV = (ns.take i).flatMap layV ++ layV n := by rw [List.take_add_one, hx]; simp
      rw [e]; exact s4
    · rcases g4 b hb with h | h
      · exact g2 b h
      · omega
  · obtain rfl : i = ns.length := by omega
    rw [List.take_length] at s2
    (repeat (first | refine BND_step hl.len ?_ | refine gg ?_))
    exact hR _ _ _ s2 g2 f2
theorem r2_Get {bv : Value} {bs : List UInt8} (hb : Arr encB 1 w bv bs) (hn : bs.length < 1000000000) (hR : R (.tuple #[.int .u64 ((getV bs).1 : Int), .int .i64 ((getV bs).2.1 : Int), .int .i64 (getV bs).2.2]) w) : CALL PR F_tumbrelref02_Get [bv] w R := by
  refine C_tumbrelref02_Get ?_
  unfold M_tumbrelref02_Get
  refine loop_up 0 (min bs.length 9) (fun i w' => w' = w ∧ ∀ t, t < i → ∃ c, bs[t]? = some c ∧ 128 ≤ c.toNat) ⟨rfl, by simp⟩ (by omega) ?_
  rintro i w1 - hi ⟨rfl, hp⟩ J m hJ
  have hv := getV_lead hp (by omega)
  by_cases hlt : i < bs.length
  · have hx := List.getElem?_eq_getElem hlt
    generalize bs[i] = c at hx
    obtain ⟨d1, d2⟩ := drop_at hx
    rw [d1, getL] at hv
    obtain ⟨b1, o1, i1, _, _, l1⟩ := hb.spot hx rfl .i64
    have ld := l1 (w' := w1) rfl (j := 0) rfl
    have fin : ∀ (h9 : i = 9 → c.toNat ≤ 1) (hz : ¬ (c.toNat = 0 ∧ 0 < i)) (hc : c.toNat < 128), ∃ (J_50 : Value → Value → World → Prop) (m_50 : Value → Value → World → Nat), J_50 (Value.int .u64 0) (.int .i64 (i : Int)) w1 ∧ ∀ (_d_50 : Env) (n_51 i_52 : Value) (w2 : World), J_50 n_51 i_52 w2 →
        (BND (binv .int .geq i_52 (Value.int .i64 0)) fun t50_66 =>
        COND t50_66
        (BND (binv .int .mul (Value.int .u64 128) n_51) fun t54_67 =>
        BND (iaddr 1 bv i_52) fun t57_68 =>
        BND (load1 w2 t57_68) fun t58_69 =>
        BND (binv .int .rem t58_69 (Value.int .u8 128)) fun t59_70 =>
        BND (convi .u64 t59_70) fun t60_71 =>
        BND (binv .int .add t54_67 t60_71) fun t61_72 =>
        BND (binv .int .sub i_52 (Value.int .i64 1)) fun t52_73 =>
        (J_50 t61_72 t52_73 w2 ∧ m_50 t61_72 t52_73 w2 < m_50 n_51 i_52 w2))
        (BND (binv .int .add (.int .i64 (i : Int)) (Value.int .i64 1)) fun t64_74 =>
        R (.tuple #[n_51, t64_74, (Value.int .i64 0)]) w2)) := by
      intro h9 hz hc
      refine loop_dn2 (o := .int .u64 0) (i + 1) (fun o k w' => o = .int .u64 (horn ((bs.take (i + 1)).drop k) : Int) ∧ w' = w1) (by congr 1; omega) ⟨?_, rfl⟩ ?_
      · rw [List.drop_of_length_le (by rw [List.length_take]; omega)]; rfl
      rintro _ k w2 hk ⟨rfl, rfl⟩ J2 m2 hJ2
      cases k with
      | zero =>
        (repeat refine gg ?_)
        rw [List.drop_zero, d2, horn_snoc] at *
        have e1 : (bs.take i).length = i := by rw [List.length_take]; omega
        rw [e1]
        rw [if_neg (by omega), if_neg (by omega), if_neg hz] at hv
        rw [hv] at hR
        have e2 : 2 ^ (7 * i) = 128 ^ i := by rw [Nat.pow_mul]
        simp only [e2] at hR
        rw [Nat.mul_comm]
        exact hR
      | succ j =>
        have ej : (((j + 1 : Nat) : Int) - 1) = (j : Int) := by omega
        have hxj := List.getElem?_eq_getElem (l := bs) (i := j) (by omega)
        generalize bs[j] = cj at hxj
        obtain ⟨bj, oj, ij, _, _, lj⟩ := hb.spot hxj rfl .i64
        have hdj : (bs.take (i + 1)).drop j = cj :: (bs.take (i + 1)).drop (j + 1) := by
          have : (bs.take (i + 1))[j]? = some cj := by rw [List.getElem?_take]; rw [if_pos (by omega)]; exact hxj
          exact (drop_at this).1
        have hs := horn_small hx (by omega) h9 (k := j) (by omega)
        rw [hdj, horn] at hs
        have esub : binv .int .sub (.int .i64 (j : Int)) (.int .i64 1) = some (.int .i64 (((j + 1 : Nat) : Int) - 1 - 1)) := by rw [binv_sub, wrap_i64 (by omega) (by omega), ej]
        rw [ej] at hJ2 ⊢
        rw [show ((j : Int) - 1) = (((j + 1 : Nat) : Int) - 1 - 1) by omega] at hJ2
        have emul : binv .int .mul (.int .u64 128) (.int .u64 ((horn ((bs.take (i + 1)).drop (j + 1)) : Nat) : Int)) = some (.int .u64 ((128 * horn ((bs.take (i + 1)).drop (j + 1)) : Nat) : Int)) := mulU (x := 128) (by omega)
        have eadd := addU (x := 128 * horn ((bs.take (i + 1)).drop (j + 1))) (y := cj.toNat % 128) (by omega)
        (repeat (first | refine BND_step (lj (w' := w2) rfl (j := 0) rfl) ?_ | refine BND_step (rem128 cj) ?_ | refine BND_step (convu64 (k := .u8) (x := cj.toNat % 128) (by omega)) ?_ | refine gg ?_))
        refine hJ2 _ _ (by omega) ⟨?_, rfl⟩
        rw [show j + 1 - 1 = j by omega, hdj, horn, Nat.add_comm]
    by_cases h9 : i < 9
    · by_cases h128 : 128 ≤ c.toNat
      · have h128' : (128 : Int) ≤ (c.toNat : Int) := by omega
        (repeat (first | refine BND_step hb.len ?_ | refine gg ?_))
        refine hJ _ (by omega) ⟨rfl, fun t ht => ?_⟩
        by_cases h : t < i
        · exact hp t h
        · obtain rfl : t = i := by omega
          exact ⟨c, hx, h128⟩
      · have h128' : ¬ (128 : Int) ≤ (c.toNat : Int) := by omega
        by_cases hz : c.toNat = 0 ∧ 0 < i
        · have hz1 : (c.toNat : Int) = 0 := by omega
          (repeat (first | refine BND_step hb.len ?_ | refine gg ?_))
          rw [if_neg (by omega), if_neg h128, if_pos hz] at hv
          rw [hv] at hR
          exact hR
        · by_cases hi0 : 0 < i
          · have hz1 : ¬ (c.toNat : Int) = 0 := by omega
            (repeat (first | refine BND_step hb.len ?_ | refine gg ?_))
            exact fin (by omega) hz (by omega)
          · (repeat (first | refine BND_step hb.len ?_ | refine gg ?_))
            exact fin (by omega) hz (by omega)
    · obtain rfl : i = 9 := by omega
      by_cases h1 : 1 < c.toNat
      · have h1' : (1 : Int) < (c.toNat : Int) := by omega
        (repeat (first | refine BND_step hb.len ?_ | refine gg ?_))
        rw [if_pos (by omega)] at hv
        rw [hv] at hR
        exact hR
      · have h1' : ¬ (1 : Int) < (c.toNat : Int) := by omega
        by_cases hz : c.toNat = 0
        · have hz1 : (c.toNat : Int) = 0 := by omega
          (repeat (first | refine BND_step hb.len ?_ | refine gg ?_))
          rw [if_neg (by omega), if_neg (by omega), if_pos (by omega)] at hv
          rw [hv] at hR
          exact hR
        · have hz1 : ¬ (c.toNat : Int) = 0 := by omega
          (repeat (first | refine BND_step hb.len ?_ | refine gg ?_))
          exact fin (by omega) (by omega) (by omega)
  · obtain rfl : i = bs.length := by omega
    rw [List.drop_of_length_le (by omega), getL] at hv
    rw [hv] at hR
    (repeat (first | refine BND_step hb.len ?_ | refine gg ?_))
    exact hR
end
end Go.Proofs.YtofllgbdphakiaaGreat
end

section
set_option linter.unusedSimpArgs false
set_option linter.unusedVariables false
namespace Go.Crc
open Go.Den
theorem xlc (a b c : BitVec 32) : a ^^^ (b ^^^ c) = b ^^^ (a ^^^ c) := by rw [← BitVec.xor_assoc, BitVec.xor_comm a b, BitVec.xor_assoc]
theorem step_xor (a b : BitVec 32) : stepC (a ^^^ b) = stepC a ^^^ stepC b := by
  have hbit : ∀ x : BitVec 32, (x &&& 1#32 = 1#32) ↔ x.getLsbD 0 = true := fun x => by
    constructor
    · intro h
      have := congrArg (fun y : BitVec 32 => y.getLsbD 0) h
      simpa using this
    · intro h
      apply BitVec.eq_of_getLsbD_eq
      intro i hi
      rw [BitVec.getLsbD_and]
      by_cases h0 : i = 0
      · subst h0; rw [h]; rfl
      · have : (1#32).getLsbD i = false := by
          rw [BitVec.getLsbD_one]; simp [h0]
        rw [this]; simp
  have hs : ∀ x : BitVec 32, stepC x = (x >>> 1) ^^^ (if x.getLsbD 0 = true then poly else 0#32) := fun x => by
    unfold stepC
    by_cases h : x &&& 1#32 = 1#32
    · rw [if_pos h, if_pos ((hbit x).1 h)]
    · rw [if_neg h, if_neg (fun hh => h ((hbit x).2 hh)), BitVec.xor_zero]
  rw [hs, hs, hs, BitVec.ushiftRight_xor_distrib, BitVec.getLsbD_xor]
  cases a.getLsbD 0 <;> cases b.getLsbD 0
  · simp
  · simp [BitVec.xor_assoc]
  · simp only [Bool.true_xor, Bool.not_false, if_true, Bool.false_eq_true, if_false, BitVec.xor_zero, BitVec.xor_assoc]
    rw [BitVec.xor_comm poly]
  · simp only [Bool.true_xor, Bool.not_true, Bool.false_eq_true, if_false, if_true, BitVec.xor_zero, BitVec.xor_assoc]
    rw [xlc poly, BitVec.xor_self, BitVec.xor_zero]
theorem step_zero : stepC 0#32 = 0#32 := by decide
theorem iter_xor : ∀ (n : Nat) (a b : BitVec 32), iterC n (a ^^^ b) = iterC n a ^^^ iterC n b
  | 0, _, _ => rfl
  | n + 1, a, b => by show stepC (iterC n (a ^^^ b)) = stepC (iterC n a) ^^^ stepC (iterC n b); rw [iter_xor n, step_xor]
theorem iter_zero : ∀ n : Nat, iterC n 0#32 = 0#32
  | 0 => rfl
  | n + 1 => by show stepC (iterC n 0#32) = _; rw [iter_zero n, step_zero]
theorem iter_add (m : Nat) : ∀ (n : Nat) (a : BitVec 32), iterC (n + m) a = iterC n (iterC m a)
  | 0, a => by rw [Nat.zero_add]; rfl
  | n + 1, a => by rw [Nat.add_right_comm]; show stepC (iterC (n + m) a) = stepC (iterC n (iterC m a)); rw [iter_add m n]
/-- what is linear is told by its bits. -/
structure Lin (f : BitVec 32 → BitVec 32) : Prop where
  add : ∀ a b, f (a ^^^ b) = f a ^^^ f b
theorem Lin.zero {f : BitVec 32 → BitVec 32} (h : Lin f) : f 0#32 = 0#32 := by
  have := h.add 0#32 0#32
  rw [BitVec.xor_self, BitVec.xor_self] at this
  exact this
def bitW (b : Bool) (k : Nat) : BitVec 32 := if b then 1#32 <<< k else 0#32
/-- a word of bits. -/
def wordB : Nat → List Bool → BitVec 32
  | _, [] => 0#32
  | k, b :: r => bitW b k ^^^ wordB (k + 1) r
theorem getLsbD_bitW (b : Bool) (k i : Nat) (hi : i < 32) : (bitW b k).getLsbD i = (b && decide (i = k)) := by
  unfold bitW
  cases b with
  | false => simp
  | true =>
    simp only [if_true, BitVec.getLsbD_shiftLeft, BitVec.getLsbD_one]
    by_cases h : i = k
    · subst h; simp [hi]
    · simp only [h, decide_false, Bool.and_false, Bool.true_and]
      by_cases h2 : i < k
      · simp [h2]
      · have : i - k ≠ 0 := by omega
        simp [this]
theorem getLsbD_wordB : ∀ (l : List Bool) (k i : Nat), i < 32 → (wordB k l).getLsbD i = (decide (k ≤ i) && l.getD (i - k) false)
  | [], k, i, _ => by simp [wordB]
  | b :: r, k, i, hi => by
    simp only [wordB, BitVec.getLsbD_xor, getLsbD_bitW b k i hi, getLsbD_wordB r (k + 1) i hi]
    by_cases h : i = k
    · subst h; simp [Nat.not_succ_le_self]
    · by_cases h2 : k ≤ i
      · rw [show i - k = (i - (k + 1)) + 1 by omega]
        simp [h, h2, show k + 1 ≤ i by omega]
      · simp [h, h2, show ¬ k + 1 ≤ i by omega]
theorem word_self (a : BitVec 32) : wordB 0 ((List.range 32).map fun i => a.getLsbD i) = a := by
  apply BitVec.eq_of_getLsbD_eq
  intro i hi
  rw [getLsbD_wordB _ 0 i hi]
  simp [hi]
theorem lin_word {f g : BitVec 32 → BitVec 32} (hf : Lin f) (hg : Lin g) (h : ∀ k : Fin 32, f (1#32 <<< k.val) = g (1#32 <<< k.val)) : ∀ (l : List Bool) (k : Nat), k + l.length ≤ 32 → f (wordB k l) = g (wordB k l)
  | [], _, _ => by show f 0#32 = g 0#32; rw [hf.zero, hg.zero]
  | b :: r, k, hk => by
    simp only [List.length_cons] at hk
    simp only [wordB]
    rw [hf.add, hg.add, lin_word hf hg h r (k + 1) (by omega)]
    congr 1
    unfold bitW
    cases b with
    | false => simp only [Bool.false_eq_true, if_false]; rw [hf.zero, hg.zero]
    | true => simp only [if_true]; exact h ⟨k, by omega⟩
theorem lin_eq {f g : BitVec 32 → BitVec 32} (hf : Lin f) (hg : Lin g) (h : ∀ k : Fin 32, f (1#32 <<< k.val) = g (1#32 <<< k.val)) (a : BitVec 32) : f a = g a := by
  have := lin_word hf hg h ((List.range 32).map fun i => a.getLsbD i) 0 (by simp)
  rwa [word_self] at this
theorem iter_lin (n : Nat) : Lin (iterC n) := ⟨iter_xor n⟩
def up (c : UInt8) : BitVec 32 := c.toBitVec.setWidth 32
/-- a byte's step by the table is eight divisions. -/
theorem byte_iter (s : BitVec 32) (c : UInt8) : byteC s c = iterC 8 (s ^^^ up c) := by
  have key : ((s ^^^ up c) >>> 8) ^^^ ent (((s ^^^ up c).setWidth 8).setWidth 32) = iterC 8 (s ^^^ up c) := lin_eq (f := fun s => (s >>> 8) ^^^ ent ((s.setWidth 8).setWidth 32)) (g := iterC 8) ⟨fun a b => by
    simp only [BitVec.ushiftRight_xor_distrib, BitVec.setWidth_xor]
    unfold ent
    rw [iter_xor]
    simp only [BitVec.xor_assoc]
    rw [xlc (b >>> 8)]⟩ (iter_lin 8) (by decide +kernel) (s ^^^ up c)
  rw [← key]
  unfold byteC idxC
  have e1 : (s ^^^ up c) >>> 8 = s >>> 8 := by
    rw [BitVec.ushiftRight_xor_distrib]
    have : up c >>> 8 = 0#32 := by
      apply BitVec.eq_of_getLsbD_eq
      intro i hi
      simp only [up, BitVec.getLsbD_ushiftRight, BitVec.getLsbD_setWidth, BitVec.getLsbD_zero]
      rw [BitVec.getLsbD_of_ge _ _ (by omega)]; simp
    rw [this, BitVec.xor_zero]
  have e2 : (s ^^^ up c).setWidth 8 = s.setWidth 8 ^^^ c.toBitVec := by
    rw [BitVec.setWidth_xor]
    congr 1
    unfold up
    simp
  rw [e1, e2]
def linB (s : BitVec 32) (D : List UInt8) : BitVec 32 := D.foldl (fun s d => iterC 8 (s ^^^ up d)) s
theorem crc_lin (s : BitVec 32) (D : List UInt8) : crcU s D = linB s D := by
  unfold crcU linB
  congr 1
  funext s c
  exact byte_iter s c
theorem up_xor (a b : UInt8) : up (a ^^^ b) = up a ^^^ up b := by
  unfold up
  rw [show (a ^^^ b).toBitVec = a.toBitVec ^^^ b.toBitVec from rfl, BitVec.setWidth_xor]
theorem lin_two : ∀ (p q : List UInt8) (s t : BitVec 32), p.length = q.length → linB s p ^^^ linB t q = linB (s ^^^ t) (List.zipWith (· ^^^ ·) p q)
  | [], [], _, _, _ => rfl
  | [], _ :: _, _, _, h => by simp at h
  | _ :: _, [], _, _, h => by simp at h
  | a :: p, b :: q, s, t, h => by
    have := lin_two p q (iterC 8 (s ^^^ up a)) (iterC 8 (t ^^^ up b)) (by simpa using h)
    show linB (iterC 8 (s ^^^ up a)) p ^^^ linB (iterC 8 (t ^^^ up b)) q = linB (iterC 8 ((s ^^^ t) ^^^ up (a ^^^ b))) (List.zipWith (· ^^^ ·) p q)
    rw [this, ← iter_xor, up_xor]
    congr 2
    simp only [BitVec.xor_assoc]
    rw [xlc (up a)]
/-! ## Bit by bit -/
def bitB (s : BitVec 32) (l : List Bool) : BitVec 32 := l.foldl (fun s b => stepC (s ^^^ bitW b 0)) s
def bits8 (c : UInt8) : List Bool := (List.range 8).map fun j => c.toBitVec.getLsbD j
theorem bitB_xor : ∀ (l : List Bool) (s t : BitVec 32), bitB (s ^^^ t) l = iterC l.length s ^^^ bitB t l
  | [], _, _ => rfl
  | b :: l, s, t => by
    show bitB (stepC ((s ^^^ t) ^^^ bitW b 0)) l = iterC (l.length + 1) s ^^^ bitB (stepC (t ^^^ bitW b 0)) l
    rw [BitVec.xor_assoc, step_xor, bitB_xor l, iter_add 1 l.length]
    rfl
theorem bits_byte (s : BitVec 32) (c : UInt8) : iterC 8 (s ^^^ up c) = bitB s (bits8 c) := by
  have h := bitB_xor (bits8 c) s 0#32
  rw [BitVec.xor_zero] at h
  rw [h, iter_xor]
  congr 1
  have key : ∀ k : Fin 256, iterC 8 ((BitVec.ofNat 8 k.val).setWidth 32) = bitB 0#32 ((List.range 8).map fun j => (BitVec.ofNat 8 k.val).getLsbD j) := by decide +kernel
  have := key ⟨c.toNat, c.toNat_lt⟩
  have e : BitVec.ofNat 8 c.toNat = c.toBitVec := by apply BitVec.eq_of_toNat_eq; simp
  simp only [e] at this
  exact this
theorem lin_bits : ∀ (D : List UInt8) (s : BitVec 32), linB s D = bitB s (D.flatMap bits8)
  | [], _ => rfl
  | d :: D, s => by
    show linB (iterC 8 (s ^^^ up d)) D = bitB s (bits8 d ++ D.flatMap bits8)
    rw [lin_bits D, bits_byte]
    unfold bitB
    rw [List.foldl_append]
theorem bitB_zeros (s : BitVec 32) : ∀ n : Nat, bitB s (List.replicate n false) = iterC n s
  | 0 => rfl
  | n + 1 => by
    rw [List.replicate_succ']
    unfold bitB
    rw [List.foldl_append]
    show stepC (bitB s (List.replicate n false) ^^^ bitW false 0) = stepC (iterC n s)
    rw [bitB_zeros s n]
    unfold bitW
    simp
theorem word_snoc : ∀ (l : List Bool) (k : Nat) (b : Bool), wordB k (l ++ [b]) = wordB k l ^^^ bitW b (k + l.length)
  | [], k, b => by simp [wordB]
  | a :: l, k, b => by
    simp only [List.cons_append, wordB, word_snoc l (k + 1) b, List.length_cons, BitVec.xor_assoc]
    rw [show k + 1 + l.length = k + (l.length + 1) by omega]
theorem bitB_word (l : List Bool) : l.length ≤ 32 → bitB 0#32 l = iterC l.length (wordB 0 l) := by
  refine snoc_ind (P := fun l => l.length ≤ 32 → bitB 0#32 l = iterC l.length (wordB 0 l)) (fun _ => rfl) (fun l b ih h => ?_) l
  simp only [List.length_append, List.length_cons, List.length_nil] at h ⊢
  rw [word_snoc]
  simp only [Nat.zero_add]
  unfold bitB
  rw [List.foldl_append]
  show stepC (bitB 0#32 l ^^^ bitW b 0) = stepC (iterC l.length (wordB 0 l ^^^ bitW b l.length))
  rw [ih (by omega), iter_xor]
  congr 2
  have key : ∀ k : Fin 32, iterC k.val (1#32 <<< k.val) = 1#32 := by decide +kernel
  unfold bitW
  cases b with
  | false => simp only [Bool.false_eq_true, if_false]; rw [iter_zero]
  | true => simp only [if_true]; rw [key ⟨l.length, by omega⟩]; rfl
theorem step_inj {x : BitVec 32} (h : stepC x = 0#32) : x = 0#32 := by
  unfold stepC at h
  by_cases h1 : x &&& 1#32 = 1#32
  · rw [if_pos h1] at h
    have hp : poly.getLsbD 31 = true := by decide
    have he : (x >>> 1).getLsbD 31 = false := by rw [BitVec.getLsbD_ushiftRight]; exact BitVec.getLsbD_of_ge _ _ (by omega)
    have : ((x >>> 1) ^^^ poly).getLsbD 31 = (0#32).getLsbD 31 := by rw [h]
    rw [BitVec.getLsbD_xor, he, hp] at this
    simp at this
  · rw [if_neg h1] at h
    apply BitVec.eq_of_getLsbD_eq
    intro i hi
    rw [BitVec.getLsbD_zero]
    cases i with
    | zero =>
      cases hb : x.getLsbD 0 with
      | false => rfl
      | true =>
        exfalso
        apply h1
        apply BitVec.eq_of_getLsbD_eq
        intro i hi
        rw [BitVec.getLsbD_and]
        by_cases h0 : i = 0
        · subst h0; rw [hb]; rfl
        · have : (1#32).getLsbD i = false := by rw [BitVec.getLsbD_one]; simp [h0]
          rw [this]; simp
    | succ i =>
      have := congrArg (fun y : BitVec 32 => y.getLsbD i) h
      simpa [BitVec.getLsbD_ushiftRight, Nat.add_comm] using this
theorem iter_inj {x : BitVec 32} : ∀ n : Nat, iterC n x = 0#32 → x = 0#32
  | 0, h => h
  | n + 1, h => iter_inj n (step_inj h)
/-- bits of which those that are set stand within 32. -/
theorem burst {l : List Bool} {a : Nat} (h : ∀ i, l.getD i false = true → a ≤ i ∧ i < a + 32) (h0 : bitB 0#32 l = 0#32) : ∀ i, l.getD i false = false := by
  have e1 : l.take a = List.replicate (min a l.length) false := by
    apply List.ext_getElem (by simp)
    intro i h1 h2
    rw [List.getElem_take, List.getElem_replicate]
    rw [List.length_take] at h1
    cases hb : l[i]'(by omega) with
    | false => rfl
    | true =>
      have := (h i (by rw [List.getD_eq_getElem?_getD, List.getElem?_eq_getElem (by omega), hb]; rfl)).1
      omega
  have e3 : (l.drop a).drop 32 = List.replicate ((l.drop a).drop 32).length false := by
    apply List.ext_getElem (by simp)
    intro i h1 h2
    rw [List.getElem_replicate]
    rw [List.length_drop, List.length_drop] at h1
    rw [List.getElem_drop, List.getElem_drop]
    cases hb : l[a + (32 + i)]'(by omega) with
    | false => rfl
    | true =>
      have := (h (a + (32 + i)) (by rw [List.getD_eq_getElem?_getD, List.getElem?_eq_getElem (by omega), hb]; rfl)).2
      omega
  have hl : l = l.take a ++ ((l.drop a).take 32 ++ (l.drop a).drop 32) := by rw [List.take_append_drop, List.take_append_drop]
  have hb : bitB 0#32 l = iterC ((l.drop a).drop 32).length (bitB 0#32 ((l.drop a).take 32)) := by
    conv => lhs; rw [hl]
    unfold bitB
    rw [List.foldl_append, List.foldl_append]
    show bitB (bitB (bitB 0#32 (l.take a)) ((l.drop a).take 32)) ((l.drop a).drop 32) = _
    rw [e1, bitB_zeros, iter_zero]
    conv => lhs; rw [e3]
    rw [bitB_zeros]; rfl
  rw [hb] at h0
  have h2 := iter_inj _ h0
  rw [bitB_word _ (by rw [List.length_take]; omega)] at h2
  have h3 := iter_inj _ h2
  intro i
  cases hq : l.getD i false with
  | false => rfl
  | true =>
    exfalso
    obtain ⟨p1, p2⟩ := h i hq
    have := getLsbD_wordB ((l.drop a).take 32) 0 (i - a) (by omega)
    rw [h3] at this
    simp only [BitVec.getLsbD_zero, Nat.zero_le, decide_true, Bool.true_and, Nat.sub_zero] at this
    rw [List.getD_eq_getElem?_getD, List.getElem?_take_of_lt (by omega), List.getElem?_drop, show a + (i - a) = i by omega, ← List.getD_eq_getElem?_getD, hq] at this
    cases this
end Go.Crc
end

section
namespace Go.Proofs.YtofllgbdphakiaaGreat
open Go.Den Go.Disk
set_option linter.unusedSimpArgs false
set_option linter.unusedVariables false
set_option maxRecDepth 20000
set_option maxHeartbeats 4000000
attribute [local congr] BND_cg COND_cg GEF_cg
attribute [local irreducible] capl slicea load1 loadn iaddr iaddra faddr storev newslice binv lookv mupd mdel mlenv mentry mestore slicev slicev3 slices indexs indexav textv rangev nexts clearv shiftv eqaggv convi buildv pickv lens lenl unv nilchk extractv partn JOIN
section
variable {w : World} {R : Value → World → Prop}
theorem r1_Same {a b : Value} {xs ys : List UInt8} (ha : Arr encB 1 w a xs) (hb : Arr encB 1 w b ys) (hn : xs.length < 1000000000) (hR : ∀ w', Fr [] w w' → R (.bool (decide (xs = ys))) w') :
    CALL PR F_tumbrelref01_Same [a, b] w R := by
  refine C_tumbrelref01_Same ?_
  unfold M_tumbrelref01_Same
  by_cases hl : xs.length = ys.length
  · (repeat (first | refine BND_step ha.len ?_ | refine BND_step hb.len ?_ | refine gg ?_))
    refine loop_up 0 xs.length (fun i w' => Fr [] w w' ∧ xs.take i = ys.take i) ⟨Fr.refl _ _, rfl⟩ (by omega) ?_
    rintro i w1 - hi ⟨f1, e⟩ J m hJ
    by_cases hlt : i < xs.length
    · have hx := List.getElem?_eq_getElem hlt
      have hy := List.getElem?_eq_getElem (l := ys) (i := i) (by omega)
      obtain ⟨b1, o1, i1, _, _, l1⟩ := (ha.fr f1 (by simp)).spot hx rfl .i64
      obtain ⟨b2, o2, i2, _, _, l2⟩ := (hb.fr f1 (by simp)).spot hy rfl .i64
      (repeat (first | refine BND_step ha.len ?_ | refine BND_step (l1 (w' := w1.drew) rfl (j := 0) rfl) ?_ | refine BND_step (l2 (w' := w1.drew) rfl (j := 0) rfl) ?_ | refine gg ?_))
      have hu : ((xs[i].toNat : Nat) : Int) = ((ys[i].toNat : Nat) : Int) ↔ xs[i] = ys[i] := by rw [Int.ofNat_inj, UInt8.toNat_inj]
      by_cases he : ((xs[i].toNat : Nat) : Int) = ((ys[i].toNat : Nat) : Int)
      · (repeat refine gg ?_)
        refine hJ _ hlt ⟨f1.trans' (Fr.drew _ _), ?_⟩
        rw [List.take_add_one, List.take_add_one, hx, hy, e, hu.1 he]
      · (repeat refine gg ?_)
        have := hR _ (f1.trans' (Fr.drew _ _))
        rwa [decide_eq_false (fun h => he (by subst h; rfl))] at this
    · (repeat (first | refine BND_step ha.len ?_ | refine gg ?_))
      have := hR _ f1
      rw [List.take_of_length_le (by omega), List.take_of_length_le (by omega)] at e
      rwa [decide_eq_true e] at this
  · (repeat (first | refine BND_step ha.len ?_ | refine BND_step hb.len ?_ | refine gg ?_))
    have := hR _ (Fr.refl _ _)
    rwa [decide_eq_false (fun h => hl (by rw [h]))] at this
end
end Go.Proofs.YtofllgbdphakiaaGreat
end

section
namespace Go.Proofs.YtofllgbdphakiaaGreat
open Go.Den Go.Disk Go.Crc
theorem remW (x : BitVec 32) (k : Nat) (hk : 0 < k ∧ k < 4294967296) : binv .int .rem (.int .u32 (x.toNat : Int)) (.int .u32 (k : Int)) = some (.int .u32 ((x.toNat % k : Nat) : Int)) := by
  rw [binv_rem _ _ _ _ (by omega)]
  rfl
theorem quoW (x : BitVec 32) (k : Nat) (hk : k < 32) : binv .int .quo (.int .u32 (x.toNat : Int)) (.int .u32 ((2 ^ k : Nat) : Int)) = some (.int .u32 ((x >>> k).toNat : Int)) := by
  have h2 : 0 < 2 ^ k := Nat.two_pow_pos k
  rw [binv_quo _ _ _ _ (by omega)]
  have e : ((x.toNat : Int)).tdiv ((2 ^ k : Nat) : Int) = ((x.toNat / 2 ^ k : Nat) : Int) := rfl
  have hx := x.isLt
  have hd := Nat.div_le_self x.toNat (2 ^ k)
  rw [e, wrap_u32 (by omega), BitVec.toNat_ushiftRight, Nat.shiftRight_eq_div_pow]
theorem and1 (x : BitVec 32) : (x &&& 1#32).toNat = x.toNat % 2 := by rw [BitVec.toNat_and]; exact Nat.and_one_is_mod _
theorem notW (x : BitVec 32) : binv .int .sub (.int .u32 4294967295) (.int .u32 (x.toNat : Int)) = some (.int .u32 ((~~~ x).toNat : Int)) := by
  have hx := x.isLt
  have e : (4294967295 : Int) - (x.toNat : Int) = (((~~~ x).toNat : Nat) : Int) := by rw [BitVec.toNat_not]; omega
  rw [binv_sub, e, wrap_u32 (by have := (~~~ x).isLt; omega)]
theorem upW (c : UInt8) : convi .u32 (.int .u8 (c.toNat : Int)) = some (.int .u32 ((up c).toNat : Int)) := by
  have h := c.toNat_lt
  have e : (up c).toNat = c.toNat := by
    show (c.toBitVec.setWidth 32).toNat = _
    rw [BitVec.toNat_setWidth]
    show c.toNat % 2 ^ 32 = c.toNat
    omega
  rw [e]
  show some (Value.int .u32 (IntKind.u32.wrap (c.toNat : Int))) = _
  rw [wrap_u32 (by omega)]
theorem lowW (x : BitVec 32) : convi .u8 (.int .u32 ((x.toNat % 256 : Nat) : Int)) = some (.int .u8 ((low8 x).toNat : Int)) := by
  have e : (low8 x).toNat = x.toNat % 256 := by
    show (x.setWidth 8).toNat = _
    rw [BitVec.toNat_setWidth]
  rw [e]
  show some (Value.int .u8 (IntKind.u8.wrap ((x.toNat % 256 : Nat) : Int))) = _
  rw [wrap_u8, Nat.mod_mod]
theorem crc_snoc (s : BitVec 32) (l : List UInt8) (c : UInt8) : crcU s (l ++ [c]) = byteC (crcU s l) c := by unfold crcU; rw [List.foldl_append]; rfl
theorem shr_add (x : BitVec 32) (a b : Nat) : (x >>> a) >>> b = x >>> (a + b) := by
  apply BitVec.eq_of_toNat_eq
  simp only [BitVec.toNat_ushiftRight, Nat.shiftRight_add]
theorem four_take (x : BitVec 32) (i : Nat) (h : i < 4) : (four x).take (i + 1) = (four x).take i ++ [low8 (x >>> (8 * i))] := by
  have h4 : i = 0 ∨ i = 1 ∨ i = 2 ∨ i = 3 := by omega
  rcases h4 with rfl | rfl | rfl | rfl
  · show [low8 x] = [low8 (x >>> 0)]
    simp
  · rfl
  · rfl
  · rfl
set_option linter.unusedSimpArgs false
set_option linter.unusedVariables false
set_option maxRecDepth 20000
set_option maxHeartbeats 4000000
attribute [local congr] BND_cg COND_cg GEF_cg
attribute [local irreducible] capl slicea load1 loadn iaddr iaddra faddr storev newslice binv lookv mupd mdel mlenv mentry mestore slicev slicev3 slices indexs indexav textv rangev nexts clearv shiftv eqaggv convi buildv pickv lens lenl unv nilchk extractv partn JOIN
section
variable {w : World} {R : Value → World → Prop}
theorem r1_Entry (n : BitVec 32) (hR : R (.int .u32 ((ent n).toNat : Int)) w) : CALL PR F_tumbrelref01_Entry [.int .u32 (n.toNat : Int)] w R := by
  refine C_tumbrelref01_Entry ?_
  unfold M_tumbrelref01_Entry
  refine loop_up2 (o := .int .u32 (n.toNat : Int)) 0 8 (fun o i w' => o = .int .u32 ((iterC i n).toNat : Int) ∧ w' = w) ⟨rfl, rfl⟩ (by omega) ?_
  rintro _ i w1 - hi ⟨rfl, rfl⟩ J m hJ
  by_cases hlt : i < 8
  · have e1 := remW (iterC i n) 2 (by omega)
    have e2 := quoW (iterC i n) 1 (by omega)
    have e3 := xor32 (iterC i n >>> 1) poly
    have a1 := and1 (iterC i n)
    by_cases ho : (((iterC i n).toNat % 2 : Nat) : Int) = 1
    · (repeat refine gg ?_)
      refine join_v (fun v w' => v = .int .u32 ((iterC (i + 1) n).toNat : Int) ∧ w' = w1) (fun K hK => ?_) ?_
      · (repeat refine gg ?_)
        refine hK _ _ ⟨?_, rfl⟩
        rw [iterC_succ, step_odd (by rw [a1]; exact ho)]
      · rintro _ _ ⟨rfl, rfl⟩
        (repeat refine gg ?_)
        exact hJ _ _ hlt ⟨rfl, rfl⟩
    · (repeat refine gg ?_)
      refine join_v (fun v w' => v = .int .u32 ((iterC (i + 1) n).toNat : Int) ∧ w' = w1) (fun K hK => ?_) ?_
      · (repeat refine gg ?_)
        refine hK _ _ ⟨?_, rfl⟩
        rw [iterC_succ, step_even (by rw [a1]; exact ho)]
      · rintro _ _ ⟨rfl, rfl⟩
        (repeat refine gg ?_)
        exact hJ _ _ hlt ⟨rfl, rfl⟩
  · obtain rfl : i = 8 := by omega
    (repeat refine gg ?_)
    exact hR
theorem r1_More {bv : Value} {bs : List UInt8} (s : BitVec 32) (hb : Arr encB 1 w bv bs) (hn : bs.length < 1000000000) (hR : R (.int .u32 ((~~~ crcU (~~~ s) bs).toNat : Int)) w) : CALL PR F_tumbrelref01_More [.int .u32 (s.toNat : Int), bv] w R := by
  refine C_tumbrelref01_More ?_
  unfold M_tumbrelref01_More
  (repeat (first | refine BND_step (notW s) ?_ | refine gg ?_))
  refine loop_up2 (o := .int .u32 ((~~~ s).toNat : Int)) 0 bs.length (fun o i w' => o = .int .u32 ((crcU (~~~ s) (bs.take i)).toNat : Int) ∧ w' = w) ⟨rfl, rfl⟩ (by omega) ?_
  rintro _ i w1 - hi ⟨rfl, rfl⟩ J m hJ
  by_cases hlt : i < bs.length
  · have hx := List.getElem?_eq_getElem hlt
    generalize bs[i] = c at hx
    obtain ⟨b1, o1, i1, _, _, l1⟩ := hb.spot hx rfl .i64
    (repeat (first | refine BND_step hb.len ?_ | refine BND_step (l1 (w' := w1) rfl (j := 0) rfl) ?_ | refine BND_step (upW c) ?_ | refine BND_step (xor32 _ _) ?_ | refine gg ?_))
    refine r1_Entry _ ?_
    (repeat refine gg ?_)
    refine hJ _ _ hlt ⟨?_, rfl⟩
    have e : bs.take (i + 1) = bs.take i ++ [c] := by rw [List.take_add_one, hx]; rfl
    rw [e, crc_snoc, byte_iter]; rfl
  · obtain rfl : i = bs.length := by omega
    rw [List.take_length]
    (repeat (first | refine BND_step hb.len ?_ | refine BND_step (notW _) ?_ | refine gg ?_))
    exact hR
theorem r1_Of {bv : Value} {bs : List UInt8} (hb : Arr encB 1 w bv bs) (hn : bs.length < 1000000000) (hR : R (.int .u32 ((crcOf bs).toNat : Int)) w) : CALL PR F_tumbrelref01_Of [bv] w R := by
  refine C_tumbrelref01_Of ?_
  unfold M_tumbrelref01_Of
  exact r1_More 0#32 hb hn hR
theorem r1_Four (n : BitVec 32) (hR : ∀ w' v G, Slc encB 1 w' v (four n) G → (∀ b ∈ G, hsz w ≤ b) → Fr [] w w' → R v w') : CALL PR F_tumbrelref01_Four [.int .u32 (n.toNat : Int)] w R := by
  refine C_tumbrelref01_Four ?_
  unfold M_tumbrelref01_Four
  refine newnil_step encB fun t w1 s1 f1 z1 => ?_
  refine loop_up3 (o := .int .u32 (n.toNat : Int)) (p := t) 0 4 (fun o p i w' => ∃ G, o = .int .u32 ((n >>> (8 * i)).toNat : Int) ∧ Slc encB 1 w' p ((four n).take i) G ∧ (∀ b ∈ G, hsz w ≤ b) ∧ Fr [] w w') ⟨_, by simp, s1, by simp, f1⟩ (by omega) ?_
  rintro _ p i w2 - hi ⟨G, rfl, s2, g2, f2⟩ J m hJ
  by_cases hlt : i < 4
  · have e1 := remW (n >>> (8 * i)) 256 (by omega)
    have e2 := quoW (n >>> (8 * i)) 8 (by omega)
    rw [shr_add, show 8 * i + 8 = 8 * (i + 1) by omega] at e2
    (repeat (first | refine BND_step (lowW _) ?_ | refine gg ?_))
    refine push_step (enc := encB) (x := low8 (n >>> (8 * i))) (y := .int .u8 ((low8 (n >>> (8 * i))).toNat : Int)) s2 encB_len encB_one rfl rfl (by omega) (by simp; omega) fun v4 w4 G4 s4 g4 f4 => ?_
    have gr := f2.grow
    (repeat refine gg ?_)
    refine hJ _ _ _ hlt ⟨G4, rfl, by rw [four_take n i hlt]; exact s4, fun b hb => ?_, f2.trans f4 fun b hb => .inr (g2 b hb)⟩
    rcases g4 b hb with h | h
    · exact g2 b h
    · omega
  · obtain rfl : i = 4 := by omega
    rw [show (four n).take 4 = four n from rfl] at s2
    (repeat refine gg ?_)
    exact hR _ _ _ s2 g2 f2
theorem r1_Put {bv : Value} {bs : List UInt8} (hb : Arr encB 1 w bv bs) (hn : bs.length < 100000000) (hR : ∀ w' v G, Slc encB 1 w' v (putS bs) G → (∀ b ∈ G, hsz w ≤ b) → Fr [] w w' → R v w') : CALL PR F_tumbrelref01_Put [bv] w R := by
  refine C_tumbrelref01_Put ?_
  unfold M_tumbrelref01_Put
  refine copy_step (enc := encB) (ys := bs) (fun w9 f9 => (hb.fr f9 (by simp)).src encB_len (by omega)) encB_len encB_one rfl (by omega) (by omega) fun v2 w2 G2 s2 g2 f2 => ?_
  refine r1_Of (hb.fr f2 (by simp)) (by omega) ?_
  refine r1_Four _ fun w4 v4 G4 s4 g4 f4 => ?_
  refine APPEND_slc (s2.fr f4 (by simp)) (s4.loads encB_len) encB_len encB_one rfl (by rw [four_len]; omega) (by rw [four_len]; omega) fun v5 w5 G5 s5 f5 g5 => ?_
  have gr2 := f2.grow
  have gr4 := f4.grow
  refine hR _ _ G5 s5 (fun b hb => ?_) ((f2.trans' f4).trans f5 fun b hb => .inr (g2 b hb))
  rcases g5 b hb with h | h
  · exact g2 b h
  · omega
theorem r1_Cut {bv : Value} {bs : List UInt8} (hb : ArrC encB 1 w bv bs) (hn : bs.length < 100000000) (hR0 : ∀ w', Fr [] w w' → cutS bs = none → R (.tuple #[.slice none 0 0, .bool false]) w')
    (hR : ∀ w' v G b, cutS bs = some b → Slc encB 1 w' v b G → (∀ b ∈ G, hsz w ≤ b) → Fr [] w w' → R (.tuple #[v, .bool true]) w') : CALL PR F_tumbrelref01_Cut [bv] w R := by
  refine C_tumbrelref01_Cut ?_
  unfold M_tumbrelref01_Cut
  unfold cutS at hR hR0
  by_cases h4 : bs.length < 4
  · (repeat (first | refine BND_step hb.len ?_ | refine gg ?_))
    exact hR0 _ (Fr.refl _ _) (by rw [if_pos h4])
  rw [if_neg h4] at hR hR0
  (repeat (first | refine BND_step hb.len ?_ | refine gg ?_))
  refine newnil_step encB fun t w1 s1 f1 z1 => ?_
  have hb1 := hb.fr f1 (by simp)
  obtain ⟨va, ea, aa⟩ := hb1.to (hi := bs.length - 4) (by omega)
  (repeat (first | refine BND_step hb.len ?_ | refine BND_step (subn_ (n := bs.length) (m := 4) (by omega) (by omega)) ?_ | refine gg ?_))
  have hl : (bs.take (bs.length - 4)).length = bs.length - 4 := by rw [List.length_take]; omega
  refine APPEND_slc s1 (aa.arr.src encB_len (by omega)) encB_len encB_one rfl (by rw [hl]; simp; omega) (by rw [hl]; simp; omega) fun v2 w2 G2 s2 f2 g2 => ?_
  rw [List.nil_append] at s2
  have f02 : Fr [] w w2 := f1.trans f2 fun b hb => .inr (by simp at hb; omega)
  have g2' : ∀ b ∈ G2, hsz w ≤ b := fun b hb => by
    rcases g2 b hb with h | h
    · simp at h; omega
    · omega
  refine r1_Put s2.arr (by omega) fun w3 v3 G3 s3 g3 f3 => ?_
  have hl2 : (putS (bs.take (bs.length - 4))).length = bs.length := by rw [putS_len, hl]; omega
  refine r1_Same s3.arr ((hb.fr f02 (by simp)).fr f3 (by simp)).arr (by omega) fun w4 f4 => ?_
  have f04 := (f02.trans' f3).trans' f4
  have iff_ : putS (bs.take (bs.length - 4)) = bs ↔ bs.drop (bs.length - 4) = four (crcOf (bs.take (bs.length - 4))) := by
    unfold putS
    constructor
    · intro h
      have := congrArg (List.drop (bs.length - 4)) h
      rw [List.drop_append_of_le_length (by omega), List.drop_of_length_le (by omega), List.nil_append] at this
      exact this.symm
    · intro h
      rw [← h]
      exact List.take_append_drop _ _
  by_cases he : bs.drop (bs.length - 4) = four (crcOf (bs.take (bs.length - 4)))
  · rw [decide_eq_true (iff_.2 he)]
    rw [if_pos he] at hR
    (repeat refine gg ?_)
    exact hR _ _ G2 _ rfl ((s2.fr f3 (by simp)).fr f4 (by simp)) g2' f04
  · rw [decide_eq_false (fun h => he (iff_.1 h))]
    rw [if_neg he] at hR0
    (repeat refine gg ?_)
    exact hR0 _ f04 rfl
end
end Go.Proofs.YtofllgbdphakiaaGreat
end

section
namespace Go.Proofs.YtofllgbdphakiaaGreat
open Go.Den Go.Disk Go.Vint Go.Crc Go.Frame
theorem remI (x k : Nat) (hk : 0 < k) : binv .int .rem (.int .i64 (x : Int)) (.int .i64 (k : Int)) = some (.int .i64 ((x % k : Nat) : Int)) := by
  rw [binv_rem _ _ _ _ (by omega)]
  rfl
theorem quoI (x k : Nat) (hk : 0 < k) (hx : x < 9223372036854775808) : binv .int .quo (.int .i64 (x : Int)) (.int .i64 (k : Int)) = some (.int .i64 ((x / k : Nat) : Int)) := by
  rw [binv_quo _ _ _ _ (by omega)]
  have e : (x : Int).tdiv (k : Int) = ((x / k : Nat) : Int) := rfl
  have hd := Nat.div_le_self x k
  rw [e]
  generalize x / k = q at hd
  rw [wrap_i64 (by omega) (by omega)]
theorem mulI {x y : Nat} (h : x * y < 9223372036854775808) : binv .int .mul (.int .i64 (x : Int)) (.int .i64 (y : Int)) = some (.int .i64 ((x * y : Nat) : Int)) := by
  have e : (x : Int) * (y : Int) = ((x * y : Nat) : Int) := by simp
  rw [binv_mul, e, wrap_i64 (by omega) (by omega)]
set_option linter.unusedSimpArgs false
set_option linter.unusedVariables false
set_option maxRecDepth 20000
set_option maxHeartbeats 4000000
attribute [local congr] BND_cg COND_cg GEF_cg
attribute [local irreducible] capl slicea load1 loadn iaddr iaddra faddr storev newslice binv lookv mupd mdel mlenv mentry mestore slicev slicev3 slices indexs indexav textv rangev nexts clearv shiftv eqaggv convi buildv pickv lens lenl unv nilchk extractv partn JOIN
section
variable {w : World} {R : Value → World → Prop}
theorem r4_Bytes {bv : SV} {k : UInt8} {body : List UInt8} (hb : Arr encB 1 w bv.v body) (hn : body.length < 1000000) (hR0 : ∀ w', 400 < body.length → Fr [] w w' → R (.tuple #[.slice none 0 0, .int .i64 4]) w')
    (hR : ∀ w' v G, body.length ≤ 400 → Slc encB 1 w' v (frB (k, body)) G → (∀ b ∈ G, hsz w ≤ b) → Fr [] w w' → R (.tuple #[v, .int .i64 0]) w') : CALL PR F_tumbrelref04_Bytes [.agg (encFr (k, bv)).toArray] w R := by
  refine C_tumbrelref04_Bytes ?_
  unfold M_tumbrelref04_Bytes
  refine NEW_intro fun w1 b1 f1 z1 => ?_
  replace b1 : blk w1 (hsz w) = some (.cells (encFr (k, bv)).toArray 123 (0, 0)) := b1
  have hb1 := hb.fr f1 (by simp)
  by_cases h4 : 400 < body.length
  · (repeat (first | refine BND_step hb1.len ?_ | refine gg ?_))
    exact hR0 _ h4 f1
  · (repeat (first | refine BND_step hb1.len ?_ | refine gg ?_))
    have b1' : blk w1.drew (hsz w) = some (.cells (encFr (k, bv)).toArray 123 (0, 0)) := b1
    refine ⟨fun _ w' => blk w' (hsz w) = some (.cells (encFr (k, bv)).toArray 123 (0, 0)), b1', ?_⟩
    have e1 : convi .u8 (.int .i64 ((body.length % 256 : Nat) : Int)) = some (.int .u8 ((UInt8.ofNat (body.length % 256)).toNat : Int)) := by rw [conv8i, Nat.mod_mod, ofNat_toNat (by omega)]
    have e2 : convi .u8 (.int .i64 ((body.length / 256 : Nat) : Int)) = some (.int .u8 ((UInt8.ofNat (body.length / 256 % 256)).toNat : Int)) := by rw [conv8i, ofNat_toNat (by omega)]
    (repeat (first | refine BND_step (remI body.length 256 (by omega)) ?_ | refine BND_step (quoI body.length 256 (by omega) (by omega)) ?_ | refine gg ?_))
    refine newparts_step encB_len (val := fun x : UInt8 => Value.int .u8 (x.toNat : Int)) (fun _ => rfl) [k, UInt8.ofNat (body.length % 256), UInt8.ofNat (body.length / 256 % 256)] rfl rfl fun t w4 s4 f4 z4 => ?_
    have b4 := f4.some (by simp) b1'
    refine ⟨b4, ?_⟩
    refine r1_Put s4.arr (by simp) fun w5 v5 G5 s5 g5 f5 => ?_
    refine ⟨f5.some (by simp) b4, ?_⟩
    have f15 := (((Fr.drew [] w1).trans' f4).trans' f5)
    refine r1_Put (hb1.fr f15 (by simp)) (by omega) fun w6 v6 G6 s6 g6 f6 => ?_
    refine APPEND_slc (s5.fr f6 (by simp)) (s6.loads encB_len) encB_len encB_one rfl (by rw [putS_len, putS_len]; simp; omega) (by rw [putS_len, putS_len]; simp; omega) fun v7 w7 G7 s7 f7 g7 => ?_
    have gr1 := f1.grow
    have gr4 := f4.grow
    have gr5 := f5.grow
    have gr6 := f6.grow
    have gd : hsz w1.drew = hsz w1 := rfl
    refine hR _ _ G7 (by omega) s7 (fun b hb => ?_) (((f1.trans' f15).trans' f6).trans f7 fun b hb => .inr (by have := g5 b hb; omega))
    rcases g7 b hb with h | h
    · have := g5 b h; omega
    · omega
theorem r4_Read {bv : Value} {bs : List UInt8} (hb : ArrC encB 1 w bv bs) (hn : bs.length < 100000000)
    (hR : ∀ w' v G, Slc encB 1 w' (SV.v v) (frRead bs).1.2 G → (∀ b ∈ G, hsz w ≤ b) → Fr [] w w' → R (.tuple #[.agg (encFr ((frRead bs).1.1, v)).toArray, .int .i64 ((frRead bs).2.1 : Int), .int .i64 (frRead bs).2.2]) w') : CALL PR F_tumbrelref04_Read [bv] w R := by
  refine C_tumbrelref04_Read ?_
  unfold M_tumbrelref04_Read
  refine NEW_intro fun w1 b1 f1 z1 => ?_
  replace b1 : blk w1 (hsz w) = some (.cells [Value.int .u8 0, .slice none 0 0].toArray 123 (0, 0)) := b1
  have bad : ∀ (w3 : World) (e : Int), Fr [] w w3 → blk w3 (hsz w) = some (.cells [Value.int .u8 0, .slice none 0 0].toArray 123 (0, 0)) → frRead bs = ((0, []), 0, e) →
      (BND (buildv #[(Value.int .u8 0), (Value.slice none 0 0)] []) fun t => BND (storev 2 w3 (.pointer (some ⟨hsz w, 0, none⟩)) t) fun w4 => BND (loadn 2 w4 (.pointer (some ⟨hsz w, 0, none⟩))) fun r => R (.tuple #[r, (Value.int .i64 0), (Value.int .i64 e)]) w4) := by
    intro w3 e f3 b3 he
    rw [he] at hR
    (repeat (first | refine gg ?_ | (apply BND_build ([.int .u8 0, .slice none 0 0]); exact rfl)))
    refine put_step (n := 2) (vs := [.int .u8 0, .slice none 0 0]) b3 rfl rfl (by intro u hu; simp at hu; rcases hu with rfl | rfl <;> rfl) (by simp) fun w4 b4 f4 _ => ?_
    (repeat (first | refine BND_step (loadn_all' b4 rfl) ?_ | refine gg ?_))
    exact hR w4 ⟨none, 0, 0⟩ [] (Slc.nil _ _ _) (by simp) (f3.trans f4 fun b hb => .inr (by simp at hb; omega))
  have hb1 := hb.fr f1 (by simp)
  by_cases h7 : bs.length < 7
  · (repeat (first | refine BND_step hb1.len ?_ | refine gg ?_))
    exact bad w1 3 f1 b1 (by unfold frRead; rw [if_pos h7])
  obtain ⟨va, ea, aa⟩ := hb1.to (hi := 7) (by omega)
  (repeat (first | refine BND_step hb1.len ?_ | refine gg ?_))
  refine r1_Cut aa (by rw [List.length_take]; omega) (fun w3 f3 hc => ?_) fun w3 v3 G3 h hc s3 g3 f3 => ?_
  · (repeat refine gg ?_)
    refine bad w3 8 (f1.trans' f3) (f3.some (by simp) b1) ?_
    unfold frRead
    rw [if_neg h7, hc]
  have hh : h.length = 3 := by
    have := cut_len hc
    rw [List.length_take] at this; omega
  obtain ⟨h0, h1, h2, rfl⟩ : ∃ a b c, h = [a, b, c] := by
    match h, hh with
    | [a, b, c], _ => exact ⟨a, b, c, rfl⟩
  have hfr : frRead bs = (if 400 < sizeOf_ [h0, h1, h2] then ((0, []), 0, 2) else if bs.length < 11 + sizeOf_ [h0, h1, h2] then ((0, []), 0, 3) else
      match cutS ((bs.take (11 + sizeOf_ [h0, h1, h2])).drop 7) with
      | none => ((0, []), 0, 8)
      | some body => ((h0, body), 11 + sizeOf_ [h0, h1, h2], 0) : Fra × Nat × Int) := by
    unfold frRead
    rw [if_neg h7, hc]; rfl
  have hsz' : sizeOf_ [h0, h1, h2] = h1.toNat + h2.toNat * 256 := rfl
  generalize hN : sizeOf_ [h0, h1, h2] = N at hfr hsz'
  have s3' : Slc encB 1 w3.drew v3 [h0, h1, h2] G3 := s3.congr fun _ _ => rfl
  obtain ⟨p1, o1, i1, _, _, l1⟩ := s3'.arr.spot (i := 1) (x := h1) rfl rfl .i64
  obtain ⟨p2, o2, i2, _, _, l2⟩ := s3'.arr.spot (i := 2) (x := h2) rfl rfl .i64
  have c1 := h1.toNat_lt
  have c2 := h2.toNat_lt
  have f03 := f1.trans' f3
  have f03d := f03.trans' (Fr.drew [] w3)
  have b3 := f3.some (by simp) b1
  have b3d : blk w3.drew (hsz w) = some (.cells [Value.int .u8 0, .slice none 0 0].toArray 123 (0, 0)) := b3
  have e1 := convi64 (k := .u8) (x := h1.toNat) (by omega)
  have e2 := convi64 (k := .u8) (x := h2.toNat) (by omega)
  have e3 : binv .int .mul (.int .i64 256) (.int .i64 (h2.toNat : Int)) = some (.int .i64 ((256 * h2.toNat : Nat) : Int)) := mulI (x := 256) (by omega)
  have e4 : binv .int .add (.int .i64 (h1.toNat : Int)) (.int .i64 ((256 * h2.toNat : Nat) : Int)) = some (.int .i64 (N : Int)) := (addn_ (n := h1.toNat) (m := 256 * h2.toNat) (by omega)).trans (by congr 3; omega)
  have e5 : binv .int .add (.int .i64 (N : Int)) (.int .i64 11) = some (.int .i64 ((11 + N : Nat) : Int)) := (addn_ (n := N) (m := 11) (by omega)).trans (by congr 3; omega)
  (repeat (first | (apply BND_step; exact (l1 (w' := w3.drew) rfl (j := 0) rfl)) | (apply BND_step; exact (l2 (w' := w3.drew) rfl (j := 0) rfl)) | refine gg ?_))
  by_cases h4 : 400 < N
  · (repeat refine gg ?_)
    exact bad w3.drew 2 f03d b3d (by rw [hfr, if_pos h4])
  have hbd := hb.fr f03d (by simp)
  by_cases h5 : bs.length < 11 + N
  · (repeat (first | refine BND_step hbd.len ?_ | refine gg ?_))
    exact bad w3.drew 3 f03d b3d (by rw [hfr, if_neg h4, if_pos h5])
  obtain ⟨vb, eb, ab⟩ := hbd.mid (lo := 7) (hi := 11 + N) (by omega) (by omega)
  (repeat (first | refine BND_step hbd.len ?_ | refine gg ?_))
  rw [if_neg h4, if_neg h5] at hfr
  refine r1_Cut ab (by rw [List.length_drop, List.length_take]; omega) (fun w7 f7 hc2 => ?_) fun w7 v7 G7 body hc2 s7 g7 f7 => ?_
  · (repeat refine gg ?_)
    exact bad w7 8 (f03d.trans' f7) (f7.some (by simp) b3d) (by rw [hfr, hc2])
  rw [hc2] at hfr
  simp only at hfr
  obtain ⟨x7, rfl⟩ := slc_sv s7
  have s37 := s3'.fr f7 (by simp)
  obtain ⟨p0, o0, i0, _, _, l0⟩ := s37.arr.spot (i := 0) (x := h0) rfl rfl .i64
  have b7 := f7.some (by simp) b3d
  (repeat (first | (apply BND_step; exact (l0 (w' := w7) rfl (j := 0) rfl)) | refine gg ?_ | (apply BND_build (encFr (h0, x7)); exact rfl)))
  refine put_step (n := 2) (vs := encFr (h0, x7)) b7 rfl rfl (encFr_one _) (by simp [encFr]) fun w9 b9 f9 _ => ?_
  (repeat (first | refine BND_step (loadn_all' b9 rfl) ?_ | refine gg ?_))
  have gr3 := f03d.grow
  have gr1 := f1.grow
  have f07 := f03d.trans' f7
  rw [hfr] at hR
  refine hR w9 x7 G7 (s7.fr f9 fun b hb hb' => by have := g7 b hb; simp at hb'; have : hsz w1 ≤ hsz w3.drew := f3.grow; omega) (fun b hb => by have := g7 b hb; omega) (f07.trans f9 fun b hb => .inr (by simp at hb; omega))
theorem r4_All {bv : Value} {bs : List UInt8} (hb : ArrC encB 1 w bv bs) (hn : bs.length < 100000000)
    (hR : ∀ w' v G B, FrmL w' v (frAll bs 0).1 G B → (∀ b ∈ G, hsz w ≤ b) → (∀ b ∈ B, hsz w ≤ b) → Fr [] w w' → (frAll bs 0).1.length ≤ bs.length → R (.tuple #[v, .int .i64 ((frAll bs 0).2.1 : Int), .int .i64 (frAll bs 0).2.2]) w') : CALL PR F_tumbrelref04_All [bv] w R := by
  refine C_tumbrelref04_All ?_
  unfold M_tumbrelref04_All
  refine newnil_step encFr fun t w0 s0 f0 z0 => ?_
  refine ⟨fun o t w' => ∃ (k : Nat) (done : List Fra) (G B : List Nat), t = .int .i64 (k : Int) ∧ FrmL w' o done G B ∧ (∀ b ∈ G, hsz w ≤ b) ∧ (∀ b ∈ B, hsz w ≤ b) ∧ Fr [] w w' ∧ k ≤ bs.length ∧ done.length ≤ k ∧ frAll bs 0 = (done ++ (frAll (bs.drop k) k).1, (frAll (bs.drop k) k).2),
    fun _ t _ => match t with | .int _ n => bs.length - n.toNat | _ => 0, ⟨0, [], [hsz w], [], rfl, ⟨⟨[], s0, rfl, by simp⟩, by simp⟩, by simp, by simp, f0, by omega, by simp, by simp⟩, ?_⟩
  rintro _ o _ w1 ⟨k, done, G, B, rfl, h1, hG, hB, f1, hk, hdl, heq⟩
  by_cases hlt : k < bs.length
  · obtain ⟨va, ea, aa⟩ := (hb.fr f1 (by simp)).from (lo := k) (by omega)
    (repeat (first | refine BND_step hb.len ?_ | refine gg ?_))
    have hne : bs.drop k ≠ [] := by intro e; have := congrArg List.length e; simp at this; omega
    refine r4_Read aa (by rw [List.length_drop]; omega) fun w2 v2 G2 s2 g2 f2 => ?_
    (repeat refine gg ?_)
    refine box_step (n := 2) (zs := [_, _]) (vs := encFr ((frRead (bs.drop k)).1.1, v2)) rfl rfl (encFr_one _) (by simp [encFr]) fun w4 b4 f4 z4 => ?_
    have f24 := (f1.trans' f2).trans' f4
    have h4 := (h1.fr f2).fr f4
    by_cases he : (frRead (bs.drop k)).2.2 = 0
    · obtain ⟨u1, u2, u3, u4⟩ := read_ok he
      rw [List.length_drop] at u2
      (repeat (first | refine BND_step (loadn_all' b4 rfl) ?_ | refine gg ?_))
      have gr1 := f1.grow
      refine frm_push (x := (frRead (bs.drop k)).1) h4 (s2.fr f4 (by simp)) (fun b hb hb' => ?_) rfl (by omega) (by omega) fun v6 w6 G6 s6 g6 f6 => ?_
      · obtain ⟨⟨cs, q1, _⟩, _⟩ := h1
        have := q1.lt b hb'
        have := g2 b hb
        omega
      · (repeat (first | refine BND_step (addn_ (n := k) (by omega)) ?_ | refine gg ?_))
        rw [frAll_ok k hne he] at heq
        refine ⟨⟨k + (frRead (bs.drop k)).2.1, done ++ [(frRead (bs.drop k)).1], G6, G2 ++ B, rfl, s6, fun b hb => ?_, fun b hb => ?_, f24.trans f6 fun b hb => .inr (hG b hb), by omega, by simp; omega, ?_⟩, ?_⟩
        · rcases g6 b hb with hq | hq
          · exact hG b hq
          · have := f24.grow; omega
        · rcases List.mem_append.1 hb with hb | hb
          · have := g2 b hb; omega
          · exact hB b hb
        · rw [heq, List.drop_drop]; simp
        · simp only [Int.toNat_natCast]; omega
    · (repeat refine gg ?_)
      rw [frAll_bad k hne he] at heq
      have := hR w4 o G B (by rw [heq]; simpa using h4) hG hB f24 (by rw [heq]; simp; omega)
      rw [heq] at this
      exact this
  · (repeat (first | refine BND_step hb.len ?_ | refine gg ?_))
    rw [List.drop_eq_nil_of_le (by omega), frAll_nil] at heq
    have := hR w1 o G B (by rw [heq]; simpa using h1) hG hB f1 (by rw [heq]; simp; omega)
    rw [heq] at this
    exact this
end
end Go.Proofs.YtofllgbdphakiaaGreat
end

section
namespace Go.Proofs.YtofllgbdphakiaaGreat
open Go.Den Go.Disk Go.Vint Go.Crc Go.Frame Go.Rec
def encZ (x : Int) : List Value := [.int .i64 x]
theorem encZ_len (x : Int) : (encZ x).length = 1 := rfl
def manyI : List Int := [-1, 0, 5, 2, 1, 2, 2, 1, 1, 1, 1, 1, 5, 7, 10, 2, 1, 1]
def manyZ (k : Int) : Int := if 1 ≤ k ∧ k ≤ 17 then ((manyOf k.toNat : Nat) : Int) else -1
theorem many_get : ∀ k : Fin 18, manyI[k.val]? = some (manyZ (k.val : Int)) := by decide
theorem manyZ_known {k : Int} (h : knownB k = true) : manyZ k = ((manyOf k.toNat : Nat) : Int) := by
  unfold knownB at h
  simp only [Bool.and_eq_true, decide_eq_true_eq] at h
  unfold manyZ; rw [if_pos h]
theorem manyZ_not {k : Int} (h : knownB k = false) : manyZ k = -1 := by
  unfold knownB at h
  simp only [Bool.and_eq_false_iff, decide_eq_false_iff_not] at h
  unfold manyZ; rw [if_neg (by omega)]
theorem join_v2 {f : (Value → Value → World → Prop) → Prop} {k : Value → Value → World → Prop} (Q : Value → Value → World → Prop) (h : ∀ K, (∀ a b w', Q a b w' → K a b w') → f K) (hk : ∀ a b w', Q a b w' → k a b w') : JOIN f k := h k hk
theorem BYTES_step {E : Nat} {s : ByteArray} {w : World} {k : Value → World → Prop} (h : ∀ v w', Arr encB 1 w' v s.data.toList → Fr [] w w' → k v w') : BYTES E (.string s) w k := by
  refine ⟨s, rfl, fun c w' hc hh hr => ?_⟩
  have hl : s.data.toList.length = s.size := Array.length_toList
  refine h _ _ ⟨some ⟨hsz w', 0, none⟩, c, by rw [hl]; rfl, .inr ⟨_, 0, _, _, _, rfl, blk_alloc_new _ _, fun i x hx => ?_⟩⟩ ?_
  · have hi := (List.getElem?_eq_some_iff.1 hx).1
    rw [hl] at hi
    have hi' : i < s.data.size := hi
    refine ⟨by simp; omega, fun j hj => ?_⟩
    obtain rfl : j = 0 := by omega
    simp only [Nat.zero_add, Nat.mul_one, Nat.add_zero]
    rw [Array.getElem?_append_left (by simpa using hi'), Array.getElem?_map]
    have : s.data[i]? = some x := by rw [← Array.getElem?_toList]; exact hx
    rw [this]; rfl
  · refine ⟨by unfold hsz; rw [← hh]; simp, fun b hb _ => ?_, hr.1, hr.2.1, hr.2.2⟩
    have e : hsz w' = hsz w := by unfold hsz; rw [hh]
    rw [blk_alloc_old (by omega), heap_ext hh]
set_option linter.unusedSimpArgs false
set_option linter.unusedVariables false
set_option maxRecDepth 20000
set_option maxHeartbeats 4000000
attribute [local congr] BND_cg COND_cg GEF_cg
attribute [local irreducible] capl slicea load1 loadn iaddr iaddra faddr storev newslice binv lookv mupd mdel mlenv mentry mestore slicev slicev3 slices indexs indexav textv rangev nexts clearv shiftv eqaggv convi buildv pickv lens lenl unv nilchk extractv partn JOIN
section
variable {w : World} {R : Value → World → Prop}
theorem r5_many (k : Int) (hR : ∀ w', Fr [] w w' → R (.int .i64 (manyZ k)) w') : CALL PR F_tumbrelref05_many [.int .i64 k] w R := by
  refine C_tumbrelref05_many ?_
  unfold M_tumbrelref05_many
  refine newparts_step encZ_len (val := fun x : Int => Value.int .i64 x) (fun _ => rfl) manyI rfl rfl fun t w1 s1 f1 z1 => ?_
  by_cases h0 : k < 0
  · (repeat refine gg ?_)
    rw [manyZ, if_neg (by omega)] at hR
    exact hR _ f1
  · by_cases h17 : 17 < k
    · (repeat refine gg ?_)
      rw [manyZ, if_neg (by omega)] at hR
      exact hR _ f1
    · obtain ⟨n, rfl⟩ : ∃ n : Nat, k = (n : Int) := ⟨k.toNat, by omega⟩
      obtain ⟨b1, o1, i1, _, _, l1⟩ := s1.arr.spot (i := n) (many_get ⟨n, by omega⟩) rfl .i64
      (repeat (first | (apply BND_step; exact (l1 (w' := w1) rfl (j := 0) rfl)) | refine gg ?_))
      exact hR _ f1
theorem r5_texts (k : Int) (m : Nat) (hR : R (.bool (fitsB k m)) w) : CALL PR F_tumbrelref05_texts [.int .i64 k, .int .i64 (m : Int)] w R := by
  refine C_tumbrelref05_texts ?_
  unfold M_tumbrelref05_texts
  unfold fitsB wordedB at hR
  have e1 : decide ((m : Int) ≤ 64) = decide (m ≤ 64) := by rw [decide_eq_decide]; omega
  have e2 : decide ((m : Int) = 0) = decide (m = 0) := by rw [decide_eq_decide]; omega
  have e3 : (decide (m = 0) || decide (m ≤ 64)) = decide (m ≤ 64) := by by_cases h : m = 0 <;> simp [h]
  by_cases h1 : k = 10
  · (repeat refine gg ?_)
    simpa [h1, e1, e3] using hR
  · by_cases h2 : k = 11
    · (repeat refine gg ?_)
      simpa [h2, e1, e3] using hR
    · by_cases h3 : k = 16
      · (repeat refine gg ?_)
        simpa [h3, e1, e3] using hR
      · (repeat refine gg ?_)
        simpa [h1, h2, h3, e2] using hR
theorem r5_Right {nv : SV} {ns : List Nat} (k : Int) (t : ByteArray) (hn : Arr encU 1 w nv.v ns) (hR : ∀ w', Fr [] w w' → R (.bool (rightB k ns.length t.size)) w') : CALL PR F_tumbrelref05_Right [.agg (encRc (k, nv, t)).toArray] w R := by
  refine C_tumbrelref05_Right ?_
  unfold M_tumbrelref05_Right
  refine NEW_intro fun w1 b1 f1 z1 => ?_
  replace b1 : blk w1.drew (hsz w) = some (.cells (encRc (k, nv, t)).toArray 82 (0, 0)) := b1
  have f1d := f1.trans' (Fr.drew [] w1)
  unfold rightB at hR
  refine ⟨fun _ w' => blk w' (hsz w) = some (.cells (encRc (k, nv, t)).toArray 82 (0, 0)), b1, ?_⟩
  (repeat refine gg ?_)
  refine r5_many k fun w2 f2 => ?_
  have b2 := f2.some (by simp) b1
  refine ⟨b2, ?_⟩
  have f12 := f1d.trans' f2
  cases hk : knownB k with
  | false =>
    rw [hk, Bool.false_and, Bool.false_and] at hR
    rw [manyZ_not hk]
    (repeat refine gg ?_)
    refine ⟨undef, fun _ _ => rfl, ?_⟩
    (repeat refine gg ?_)
    refine ⟨b2, ?_⟩
    (repeat refine gg ?_)
    exact hR _ f12
  | true =>
    rw [hk, Bool.true_and] at hR
    rw [manyZ_known hk]
    (repeat (first | refine BND_step hn.len ?_ | refine gg ?_))
    refine r5_many k fun w3 f3 => ?_
    have b3 := f3.some (by simp) b2
    refine ⟨b3, ?_⟩
    rw [manyZ_known hk]
    have e : decide ((ns.length : Int) = ((manyOf k.toNat : Nat) : Int)) = decide (ns.length = manyOf k.toNat) := by rw [decide_eq_decide]; omega
    by_cases hm : ns.length = manyOf k.toNat
    · have hm' : (ns.length : Int) = ((manyOf k.toNat : Nat) : Int) := by omega
      rw [decide_eq_true hm, Bool.true_and] at hR
      (repeat refine gg ?_)
      refine r5_texts _ _ ?_
      (repeat refine gg ?_)
      exact hR _ (f12.trans' f3)
    · have hm' : ¬ (ns.length : Int) = ((manyOf k.toNat : Nat) : Int) := by omega
      rw [decide_eq_false hm, Bool.false_and] at hR
      (repeat refine gg ?_)
      exact hR _ (f12.trans' f3)
theorem r5_Bytes {nv : SV} {ns : List Nat} (k : Int) (t : ByteArray) (hn : Arr encU 1 w nv.v ns) (hs : ∀ n ∈ ns, n < 18446744073709551616) (hR0 : ∀ w', rightB k ns.length t.size = false → Fr [] w w' → R (.tuple #[.slice none 0 0, .int .i64 1]) w')
    (hR : ∀ w' v G, rightB k ns.length t.size = true → Slc encB 1 w' v (recB k.toNat ns t.data.toList) G → (∀ b ∈ G, hsz w ≤ b) → Fr [] w w' → R (.tuple #[v, .int .i64 0]) w') : CALL PR F_tumbrelref05_Bytes [.agg (encRc (k, nv, t)).toArray] w R := by
  refine C_tumbrelref05_Bytes ?_
  unfold M_tumbrelref05_Bytes
  have htl : t.data.toList.length = t.size := Array.length_toList
  refine NEW_intro fun w1 b1 f1 z1 => ?_
  replace b1 : blk w1 (hsz w) = some (.cells (encRc (k, nv, t)).toArray 82 (0, 0)) := b1
  (repeat (first | refine BND_step (loadn_all' b1 rfl) ?_ | refine gg ?_))
  refine r5_Right k t (hn.fr f1 (by simp)) fun w2 f2 => ?_
  have f02 := f1.trans' f2
  have b2 := f2.some (by simp) b1
  replace b2 : blk w2.drew (hsz w) = some (.cells (encRc (k, nv, t)).toArray 82 (0, 0)) := b2
  cases hr : rightB k ns.length t.size with
  | false =>
    (repeat refine gg ?_)
    exact hR0 _ hr f02
  | true =>
    obtain ⟨hk1, hk2, hm, hf⟩ := right_known hr
    have hsm := body_small (t := t.data.toList) (by rw [htl]; exact hr) hs
    obtain ⟨kn, rfl⟩ : ∃ kn : Nat, k = (kn : Int) := ⟨k.toNat, by omega⟩
    have f02d := f02.trans' (Fr.drew [] w2)
    (repeat refine gg ?_)
    refine ⟨fun _ w' => blk w' (hsz w) = some (.cells (encRc ((kn : Int), nv, t)).toArray 82 (0, 0)), b2, b2, b2, ?_⟩
    have e8 := conv8i kn
    rw [Nat.mod_eq_of_lt (show kn < 256 by omega)] at e8
    have ek : ((kn : Nat) : Int) = ((UInt8.ofNat kn).toNat : Int) := by rw [ofNat_toNat (by omega)]
    (repeat refine gg ?_)
    have hlb : (ns.flatMap layV).length + t.data.toList.length = (bodyOf_ ns t.data.toList).length := by unfold bodyOf_; rw [List.length_append]
    have hml := manyOf_le (kn : Int).toNat
    have e2 : hsz w2.drew = hsz w2 := rfl
    have gr2 := f02.grow
    have last : ∀ (K : Value → Value → World → Prop) (w4 : World) (va vb : Value) (G : List Nat), Fr [] w2.drew w4 → blk w4 (hsz w) = some (.cells (encRc ((kn : Int), nv, t)).toArray 82 (0, 0)) → Slc encB 1 w4 va (ns.flatMap layV) G → (∀ b ∈ G, hsz w2 ≤ b) → Arr encB 1 w4 vb t.data.toList →
        (∀ a b w', (b = .int .i64 0 ∧ ∃ G, Slc encB 1 w' a (recB kn ns t.data.toList) G ∧ (∀ b ∈ G, hsz w ≤ b) ∧ Fr [] w w') → K a b w') →
        APPEND 5 1 1 (Value.int .u8 0) va vb w4 fun t16 w6 => blk w6 (hsz w) = some (.cells (encRc ((kn : Int), nv, t)).toArray 82 (0, 0)) ∧
          BND (buildv #[(Value.int .u8 0), (Value.slice none 0 0)] [(0, 1, .int .u8 (kn : Int)), (1, 1, t16)]) fun t17 => CALL PR F_tumbrelref04_Bytes [t17] w6 fun t18 w7 => BND (extractv t18 0) fun t19 => BND (extractv t18 1) fun t20 => K t19 t20 w7 := by
      intro K w4 va vb G f4 b4 sa gG ab hK
      refine APPEND_slc sa (ab.src encB_len (by omega)) encB_len encB_one rfl (by omega) (by omega) fun v5 w5 G5 s5 f5 sub5 => ?_
      refine ⟨f5.some (fun hb => by have := gG _ hb; have := blk_lt b2; omega) b4, ?_⟩
      obtain ⟨x5, rfl⟩ := slc_sv s5
      (repeat (first | refine gg ?_ | (apply BND_build ([.int .u8 (kn : Int), x5.v]); exact rfl)))
      rw [show ([Value.int .u8 (kn : Int), x5.v] : List Value) = encFr (UInt8.ofNat kn, x5) by unfold encFr; rw [← ek]]
      have f25 : Fr [] w2.drew w5 := f4.trans f5 fun b hb => .inr (by have := gG b hb; omega)
      refine r4_Bytes (body := bodyOf_ ns t.data.toList) s5.arr (by omega) (fun w6 h6 _ => by omega) fun w6 v6 G6 _ s6 g6 f6 => ?_
      (repeat refine gg ?_)
      refine hK _ _ _ ⟨rfl, G6, s6, fun b hb => ?_, (f02d.trans' f25).trans' f6⟩
      have := g6 b hb; have := f25.grow; omega
    refine join_v2 (fun a b w' => b = .int .i64 0 ∧ ∃ G, Slc encB 1 w' a (recB kn ns t.data.toList) G ∧ (∀ b ∈ G, hsz w ≤ b) ∧ Fr [] w w') (fun K hK => ⟨?_, ?_⟩) ?_
    · refine r2_All (hn.fr f02d (by simp)) hs (by omega) fun w3 v3 G3 s3 g3 f3 => ?_
      have b3 := f3.some (by simp) b2
      refine ⟨b3, b3, ?_⟩
      refine BYTES_step fun v4 w4 a4 f4 => ?_
      have b4 := f4.some (by simp) b3
      refine ⟨b4, b4, ?_⟩
      exact last K w4 v3 v4 G3 (f3.trans' f4) b4 (s3.fr f4 (by simp)) (fun b hb => by have := g3 b hb; omega) a4 hK
    · refine BYTES_step fun v3 w3 a3 f3 => ?_
      have b3 := f3.some (by simp) b2
      refine ⟨b3, b3, ?_⟩
      refine r2_All ((hn.fr f02d (by simp)).fr f3 (by simp)) hs (by omega) fun w4 v4 G4 s4 g4 f4 => ?_
      have b4 := f4.some (by simp) b3
      refine ⟨b4, b4, ?_⟩
      exact last K w4 v4 v3 G4 (f3.trans' f4) b4 s4 (fun b hb => by have := g4 b hb; have := f3.grow; omega) (a3.fr f4 (by simp)) hK
    · rintro a _ w' ⟨rfl, G, s, g, f⟩
      (repeat refine gg ?_)
      exact hR _ _ G hr s g f
theorem r5_Read {s0 : SV} {x : Fra} (hb : ArrC encB 1 w s0.v x.2) (hn : x.2.length < 1000000)
    (hR : ∀ w' nv G, Slc encU 1 w' (SV.v nv) (recRead x).1.n G → (∀ b ∈ G, hsz w ≤ b) → Fr [] w w' → R (.tuple #[.agg (encRc (((recRead x).1.kind : Int), nv, txB (recRead x).1.text)).toArray, .int .i64 (recRead x).2]) w') : CALL PR F_tumbrelref05_Read [.agg (encFr (x.1, s0)).toArray] w R := by
  refine C_tumbrelref05_Read ?_
  unfold M_tumbrelref05_Read
  refine NEW_intro fun w1 b1 f1 z1 => ?_
  replace b1 : blk w1 (hsz w) = some (.cells (encFr (x.1, s0)).toArray 123 (0, 0)) := b1
  refine NEW_intro fun w2 b2 f2 z2 => ?_
  replace b2 : blk w2 (hsz w1) = some (.cells [Value.int .i64 0, .slice none 0 0, .string .empty].toArray 82 (0, 0)) := b2
  have hkl := x.1.toNat_lt
  have b1' := f2.some (by simp) b1
  have ec := convi64 (k := .u8) (x := x.1.toNat) (by omega)
  have bad : ∀ (w6 : World) (e : Int), Fr [] w w6 → blk w6 (hsz w1) = some (.cells [Value.int .i64 0, .slice none 0 0, .string .empty].toArray 82 (0, 0)) → recRead x = (zeroR, e) →
      (BND (buildv #[(Value.int .i64 0), (Value.slice none 0 0), (Value.string ByteArray.empty)] []) fun t => BND (storev 3 w6 (.pointer (some ⟨hsz w1, 0, none⟩)) t) fun w7 => BND (loadn 3 w7 (.pointer (some ⟨hsz w1, 0, none⟩))) fun r => R (.tuple #[r, (Value.int .i64 e)]) w7) := by
    intro w6 e f6 b6 he
    rw [he] at hR
    (repeat (first | refine gg ?_ | (apply BND_build ([.int .i64 0, .slice none 0 0, .string .empty]); exact rfl)))
    refine put_step (n := 3) (vs := [.int .i64 0, .slice none 0 0, .string .empty]) b6 rfl rfl (by intro u hu; simp at hu; rcases hu with rfl | rfl | rfl <;> rfl) (by simp) fun w7 b7 f7 _ => ?_
    (repeat (first | refine BND_step (loadn_all' b7 rfl) ?_ | refine gg ?_))
    exact hR w7 ⟨none, 0, 0⟩ [] (Slc.nil _ _ _) (by simp) (f6.trans f7 fun b hb => .inr (by have := f1.grow; simp at hb; omega))
  (repeat refine gg ?_)
  refine r5_many _ fun w3 f3 => ?_
  have b13 := f3.some (by simp) b1'
  have b23 := f3.some (by simp) b2
  have f03 := (f1.trans' f2).trans' f3
  have gr3 := f3.grow
  unfold recRead at hR
  cases hk : knownB (x.1.toNat : Int) with
  | false =>
    rw [manyZ_not hk]
    (repeat refine gg ?_)
    exact bad w3 2 f03 b23 (by unfold recRead; rw [if_pos hk])
  | true =>
    have hkn : ¬ knownB (x.1.toNat : Int) = false := by rw [hk]; simp
    rw [if_neg hkn] at hR
    rw [manyZ_known hk, Int.toNat_natCast]
    have h10 := manyOf_le x.1.toNat
    generalize hmany : manyOf x.1.toNat = many at *
    (repeat (first | refine gg ?_ | (apply BND_build ([.int .i64 (x.1.toNat : Int), .slice none 0 0, .string .empty]); exact rfl)))
    refine box_step (n := 3) (zs := [_, _, _]) (vs := encRc ((x.1.toNat : Int), ⟨none, 0, 0⟩, .empty)) rfl rfl (encRc_one _) (by simp [encRc]) fun w4 b4 f4 z4 => ?_
    have b14 := f4.some (by simp) b13
    have b24 := f4.some (by simp) b23
    have f04 := f03.trans' f4
    have gr4 := f4.grow
    refine loop_up2 (o := .int .i64 0) 0 many (fun o i w' => ∃ (at_ : Nat) (done : List Nat) (nv : SV) (G : List Nat), o = .int .i64 (at_ : Int) ∧ at_ ≤ x.2.length ∧ blk w' (hsz w3) = some (.cells (encRc ((x.1.toNat : Int), nv, .empty)).toArray 82 (0, 0)) ∧ Slc encU 1 w' nv.v done G ∧ (∀ b ∈ G, hsz w4 ≤ b) ∧
        Fr [] w w' ∧ hsz w4 ≤ hsz w' ∧ blk w' (hsz w1) = some (.cells [Value.int .i64 0, .slice none 0 0, .string .empty].toArray 82 (0, 0)) ∧ blk w' (hsz w) = some (.cells (encFr (x.1, s0)).toArray 123 (0, 0)) ∧ done.length = i ∧
        readN many x.2 = (done ++ (readN (many - i) (x.2.drop at_)).1, (readN (many - i) (x.2.drop at_)).2))
      ⟨0, [], ⟨none, 0, 0⟩, [], rfl, by omega, b4, Slc.nil _ _ _, by simp, f04, Nat.le_refl _, b24, b14, rfl, by simp⟩ (by omega) ?_
    rintro _ i w8 - hi ⟨at_, done, nv, G, rfl, hat, b8, s8, g8, f8, gr8, b28, b18, hdl, heq⟩ J m hJ
    obtain ⟨va, ea, aa0⟩ := hb.from (lo := at_) hat
    have aa := aa0.fr f8 (by simp)
    have hlr : (x.2.drop at_).length = x.2.length - at_ := List.length_drop
    by_cases hlt : i < many
    · obtain ⟨mm, hmm⟩ : ∃ mm, many - i = mm + 1 := ⟨many - i - 1, by omega⟩
      rw [hmm, readN_step] at heq
      (repeat refine gg ?_)
      refine r2_Get aa.arr (by omega) ?_
      by_cases he : (getV (x.2.drop at_)).2.2 = 0
      · rw [if_pos he] at heq
        have hu := getV_used he
        (repeat refine gg ?_)
        refine newone_step (enc := encU) (x := (getV (x.2.drop at_)).1) (y := .int .u64 ((getV (x.2.drop at_)).1 : Int)) encU_len rfl fun t w11 s11 f11 z11 => ?_
        have b11 := f11.some (by simp) b8
        refine APPEND_slc (s8.fr f11 (by simp)) (s11.loads encU_len) encU_len encU_one rfl (by simp; omega) (by simp; omega) fun v12 w12 G12 s12 f12 sub12 => ?_
        obtain ⟨x12, rfl⟩ := slc_sv s12
        have b12 := f12.some (fun hb => by have := g8 _ hb; omega) b11
        (repeat refine gg ?_)
        refine fstore_step b12 ⟨rfl, rfl⟩ (by simp [encRc]) fun w13 b13' f13 _ => ?_
        (repeat (first | refine BND_step (addn_ (n := at_) (by omega)) ?_ | refine gg ?_))
        have gr11 := f11.grow
        have gr12 := f12.grow
        have gr13 := f13.grow
        have g12 : ∀ b ∈ G12, hsz w4 ≤ b := fun b hb => by
          rcases sub12 b hb with hq | hq
          · exact g8 b hq
          · omega
        have f812 : Fr [] w w12 := (f8.trans' f11).trans f12 fun b hb => .inr (by have := g8 b hb; have := f04.grow; omega)
        have f813 : Fr [] w w13 := f812.trans f13 fun b hb => .inr (by simp at hb; have := f03.grow; omega)
        have keep : ∀ (b : Nat) (o : Obj), b < hsz w3 → blk w8 b = some o → blk w13 b = some o := fun b o hb h => by
          have q1 := f11.some (by simp) h
          have q2 := f12.some (fun hb' => by have := g8 _ hb'; omega) q1
          exact f13.some (by simp; omega) q2
        refine hJ _ _ hlt ⟨at_ + (getV (x.2.drop at_)).2.1, done ++ [(getV (x.2.drop at_)).1], x12, G12, rfl, by omega, b13', s12.fr f13 (fun b hb hb' => ?_), g12, f813, by omega, keep _ _ (by omega) b28, keep _ _ (by have := f1.grow; omega) b18, by simp [hdl], ?_⟩
        · have := g12 b hb; simp at hb'; omega
        · rw [show many - (i + 1) = mm by omega, heq, List.drop_drop]; simp
      · rw [if_neg he] at heq
        (repeat refine gg ?_)
        refine bad w8 _ f8 b28 ?_
        unfold recRead
        rw [if_neg hkn, hmany, heq, if_neg he]
    · rw [show many - i = 0 by omega] at heq
      simp only [readN, List.append_nil] at heq
      rw [heq] at hR
      simp only [if_true] at hR
      have hrw : recRead x = if fitsB (x.1.toNat : Int) (x.2.drop at_).length = true then (⟨x.1.toNat, done, x.2.drop at_⟩, 0) else (zeroR, 2) := by
        unfold recRead
        rw [if_neg hkn, hmany, heq]
        rfl
      (repeat (first | refine BND_step hb.len ?_ | refine BND_step (subn_ (n := x.2.length) (m := at_) hat (by omega)) ?_ | refine gg ?_))
      refine r5_texts _ _ ?_
      rw [← hlr]
      cases hf : fitsB (x.1.toNat : Int) (x.2.drop at_).length with
      | false =>
        rw [hf] at hrw
        (repeat refine gg ?_)
        exact bad w8 2 f8 b28 hrw
      | true =>
        rw [hf] at hR
        simp only [if_true] at hR
        (repeat (first | refine BND_step (textB aa.arr) ?_ | refine gg ?_))
        refine fstore_step b8 ⟨rfl, rfl⟩ (by simp [encRc]) fun w9 b9 f9 _ => ?_
        replace b9 : blk w9 (hsz w3) = some (.cells (encRc ((x.1.toNat : Int), nv, txB (x.2.drop at_))).toArray 82 (0, 0)) := b9
        have b29 := f9.some (by simp; omega) b28
        (repeat (first | refine BND_step (loadn_all' b9 rfl) ?_ | refine gg ?_))
        refine put_step (n := 3) (vs := encRc ((x.1.toNat : Int), nv, txB (x.2.drop at_))) b29 rfl rfl (encRc_one _) (by simp [encRc]) fun w10 b10 f10 _ => ?_
        (repeat (first | refine BND_step (loadn_all' b10 rfl) ?_ | refine gg ?_))
        have gg := f03.grow
        have gg1 := f1.grow
        exact hR w10 nv G ((s8.fr f9 (fun b hb hb' => by have := g8 b hb; simp at hb'; omega)).fr f10 (fun b hb hb' => by have := g8 b hb; simp at hb'; omega)) (fun b hb => by have := g8 b hb; omega)
          ((f8.trans f9 fun b hb => .inr (by simp at hb; omega)).trans f10 fun b hb => .inr (by simp at hb; omega))
theorem r5_All {bv : Value} {bs : List UInt8} (hb : ArrC encB 1 w bv bs) (hn : bs.length < 10000000)
    (hR : ∀ w' v ev G B E, RecL w' v (recAll bs).1 G B → Slc encO 1 w' ev (recAll bs).2.1 E → (∀ b ∈ G, hsz w ≤ b) → (∀ b ∈ B, hsz w ≤ b) → (∀ b ∈ E, hsz w ≤ b) → Fr [] w w' → R (.tuple #[v, ev, .int .i64 (recAll bs).2.2]) w') : CALL PR F_tumbrelref05_All [bv] w R := by
  refine C_tumbrelref05_All ?_
  unfold M_tumbrelref05_All
  refine newnil_step encRc fun t0 wa sa fa za => ?_
  refine newnil_step encO fun t1 wb sb fb zb => ?_
  have fab := fa.trans' fb
  refine r4_All (hb.fr fab (by simp)) (by omega) fun w1 lv G1 B1 h1 gG1 gB1 f1 hle => ?_
  have f01 := fab.trans' f1
  have hsm := frAll_small bs.length bs 0 rfl
  unfold recAll at hR
  generalize hfs : (frAll bs 0).1 = fs at *
  generalize (frAll bs 0).2.2 = e0 at *
  have ga := fa.grow
  have gb := fb.grow
  have g01 := f1.grow
  (repeat refine gg ?_)
  refine loop_up4 (a := t0) (b := t1) (c := .int .i64 0) 0 fs.length (fun o ev t i w' => ∃ (k : Nat) (done : List Rc) (ends : List Nat) (G B E : List Nat), t = .int .i64 (k : Int) ∧ RecL w' o done G B ∧ Slc encO 1 w' ev ends E ∧ (∀ b ∈ G, hsz w ≤ b ∧ b ∉ E) ∧ (∀ b ∈ B, hsz w ≤ b ∧ b ∉ E) ∧ (∀ b ∈ E, hsz w ≤ b) ∧
      Fr [] w w' ∧ (∀ b ∈ G1, b ∉ G ∧ b ∉ E) ∧ (∀ b ∈ B1, b ∉ G ∧ b ∉ E) ∧ FrmL w' lv fs G1 B1 ∧ k ≤ i * 500 ∧ done.length = i ∧ ends.length = i ∧ recAllF fs 0 e0 = (done ++ (recAllF (fs.drop i) k e0).1, ends ++ (recAllF (fs.drop i) k e0).2.1, (recAllF (fs.drop i) k e0).2.2))
    ⟨0, [], [], [hsz w], [], [hsz wa], rfl, ⟨⟨[], ((sa.fr fb (by simp)).fr f1 (by simp)), rfl, by simp⟩, by simp⟩, sb.fr f1 (by simp), fun b hb => by simp at hb ⊢; omega, by simp, fun b hb => by simp at hb; omega, f01, fun b hb => by have := gG1 b hb; simp; omega, fun b hb => by have := gB1 b hb; simp; omega, h1, by omega, rfl, rfl, by simp⟩ (by omega) ?_
  rintro o ev _ i w2 - hi ⟨k, done, ends, G, B, E, rfl, h2, se, gG, gB, gE, f2, dG, dB, h12, hk, hdl, hel, heq⟩ J m hJ
  by_cases hlt : i < fs.length
  · have hx := List.getElem?_eq_getElem hlt
    have hm := List.getElem_mem hlt
    have hdr : fs.drop i = fs[i] :: fs.drop (i + 1) := List.drop_eq_getElem_cons hlt
    generalize fs[i] = x at hx hm hdr
    have hx4 := hsm x hm
    rw [hdr, recAllF_cons] at heq
    have hlen := h12.len
    have h12' := h12
    obtain ⟨⟨cs, q1, q2, q3⟩, q4⟩ := h12
    obtain ⟨s, H, c1, c2, c3⟩ := q3 i x hx
    obtain ⟨bp, op, ia, ln, _, ld⟩ := q1.arr.spot c1 rfl .i64
    (repeat refine gg ?_)
    refine r5_Read c2.arrC (by omega) fun w5 nv Gn sn gn f5 => ?_
    (repeat refine gg ?_)
    refine box_step (n := 3) (zs := [_, _, _]) (vs := encRc (((recRead x).1.kind : Int), nv, txB (recRead x).1.text)) rfl rfl (encRc_one _) (by simp [encRc]) fun w7 b7 f7 z7 => ?_
    have f27 := f5.trans' f7
    have f07 := f2.trans' f27
    by_cases he : (recRead x).2 = 0
    · rw [if_pos he] at heq
      obtain ⟨bp', op', ia', ln', _, ld'⟩ := (q1.fr f27 (by simp)).arr.spot c1 rfl .i64
      have el := c2.len
      have e1 : binv .int .add (.int .i64 ((k + x.2.length : Nat) : Int)) (.int .i64 11) = some (.int .i64 ((k + (11 + x.2.length) : Nat) : Int)) := (addn_ (n := k + x.2.length) (m := 11) (by omega)).trans (by congr 3; omega)
      (repeat (first | (apply BND_step; exact (ld' (w' := w7) rfl (j := 1) rfl)) | refine BND_step (addn_ (n := k) (m := x.2.length) (by omega)) ?_ | refine BND_step (loadn_all' b7 rfl) ?_ | refine gg ?_))
      have gr2 := f2.grow
      have gr27 := f27.grow
      refine rec_push (x := (recRead x).1) (h2.fr f27) (sn.fr f7 (by simp)) (fun b hb hb' => by have := gn b hb; have := h2.lt b hb'; omega) rfl (by omega) (by omega) fun v10 w10 G10 h10 g10 f10 => ?_
      have se10 := (se.fr f27 (by simp)).fr f10 (fun b hb hb' => (gG b hb').2 hb)
      refine push_step (enc := encO) (x := k + (11 + x.2.length)) (y := .int .i64 ((k + (11 + x.2.length) : Nat) : Int)) se10 encO_len encO_one rfl rfl (by omega) (by omega) fun v12 w12 E12 s12 g12 f12 => ?_
      have gr10 := f10.grow
      have gr5 := f5.grow
      have ltG : ∀ b ∈ G, b < hsz w2 := h2.lt
      have ltE : ∀ b ∈ E, b < hsz w2 := se.lt
      have nG : ∀ b ∈ G10, hsz w ≤ b ∧ b ∉ E12 := fun b hb => by
        have hlt10 := h10.lt b hb
        rcases g10 b hb with hq | hq
        · refine ⟨(gG b hq).1, fun hb' => ?_⟩
          rcases g12 b hb' with hq2 | hq2
          · exact (gG b hq).2 hq2
          · omega
        · refine ⟨by omega, fun hb' => ?_⟩
          rcases g12 b hb' with hq2 | hq2
          · have := ltE b hq2; omega
          · omega
      have nB : ∀ b ∈ Gn ++ B, hsz w ≤ b ∧ b ∉ E12 := fun b hb => by
        rcases List.mem_append.1 hb with hb | hb
        · have h5 := gn b hb
          have h6 := sn.lt b hb
          refine ⟨by omega, fun hb' => ?_⟩
          rcases g12 b hb' with hq2 | hq2
          · have := ltE b hq2; omega
          · have := f7.grow; omega
        · refine ⟨(gB b hb).1, fun hb' => ?_⟩
          rcases g12 b hb' with hq2 | hq2
          · exact (gB b hb).2 hq2
          · have := (h2.2 b hb).2; omega
      have nE : ∀ b ∈ E12, hsz w ≤ b := fun b hb => by
        rcases g12 b hb with hq | hq
        · exact gE b hq
        · omega
      have lt1 : ∀ b ∈ G1, b < hsz w2 := q1.lt
      have lt1B : ∀ b ∈ B1, b < hsz w2 := fun b hb => (q4 b hb).2
      have d1 : ∀ b, (b ∈ G1 ∨ b ∈ B1) → b ∉ G10 ∧ b ∉ E12 := fun b hb => by
        have hl : b < hsz w2 := hb.elim (lt1 b) (lt1B b)
        have hd : b ∉ G ∧ b ∉ E := hb.elim (dG b) (dB b)
        refine ⟨fun h => ?_, fun h => ?_⟩
        · rcases g10 b h with hq | hq
          · exact hd.1 hq
          · omega
        · rcases g12 b h with hq | hq
          · exact hd.2 hq
          · omega
      have h12n : FrmL w12 lv fs G1 B1 := by
        obtain ⟨⟨cs', r1, r2, r3⟩, r4⟩ := h12'.fr f27
        refine ⟨⟨cs', (r1.fr f10 (fun b hb => (dG b hb).1)).fr f12 (fun b hb => (dG b hb).2), r2, fun i' y hy => ?_⟩, fun b hb => ⟨(r4 b hb).1, by have := (r4 b hb).2; have := f12.grow; omega⟩⟩
        obtain ⟨s', H', p1, p2, p3⟩ := r3 i' y hy
        exact ⟨s', H', p1, (p2.fr f10 (fun b hb => (dB b (p3 b hb)).1)).fr f12 (fun b hb => (dB b (p3 b hb)).2), p3⟩
      (repeat refine gg ?_)
      refine hJ _ _ _ _ hlt ⟨k + (11 + x.2.length), done ++ [(recRead x).1], ends ++ [k + (11 + x.2.length)], G10, Gn ++ B, E12, rfl, h10.far f12 (fun b hb hb' => ?_) (fun b hb hb' => ?_), s12, nG, nB, nE, (f07.trans f10 fun b hb => .inr (gG b hb).1).trans f12 fun b hb => .inr (gE b hb), fun b hb => d1 b (.inl hb), fun b hb => d1 b (.inr hb), h12n, by omega, by simp [hdl], by simp [hel], ?_⟩
      · rcases g10 b hb with hq | hq
        · exact (gG b hq).2 hb'
        · have := ltE b hb'; omega
      · rcases List.mem_append.1 hb with hb | hb
        · have := gn b hb; have := ltE b hb'; omega
        · exact (gB b hb).2 hb'
      · rw [heq]; simp
    · rw [if_neg he] at heq
      (repeat refine gg ?_)
      rw [heq, List.append_nil, List.append_nil] at hR
      exact hR _ _ _ G B E (h2.fr f27) (se.fr f27 (by simp)) (fun b hb => (gG b hb).1) (fun b hb => (gB b hb).1) gE f07
  · obtain rfl : i = fs.length := by omega
    rw [List.drop_length] at heq
    simp only [recAllF, List.append_nil] at heq
    (repeat (first | refine BND_step h12.len ?_ | refine gg ?_))
    rw [heq] at hR
    exact hR _ _ _ G B E h2 se (fun b hb => (gG b hb).1) (fun b hb => (gB b hb).1) gE f2
end
end Go.Proofs.YtofllgbdphakiaaGreat
end

section
namespace Go.Proofs.YtofllgbdphakiaaGreat
open Go.Den Go.Disk Go.Vint Go.Crc Go.Frame Go.Rec Go.Root
theorem thenT_ok {x : Dk × Int} {f : Dk → Dk × Int} (h : x.2 = 0) : thenT x f = f x.1 := by unfold thenT; rw [if_pos h]
theorem thenT_no {x : Dk × Int} (h : ¬ x.2 = 0) (f : Dk → Dk × Int) : thenT x f = x := by unfold thenT; rw [if_neg h]
set_option linter.unusedSimpArgs false
set_option linter.unusedVariables false
set_option maxRecDepth 20000
set_option maxHeartbeats 4000000
attribute [local congr] BND_cg COND_cg GEF_cg
attribute [local irreducible] capl slicea load1 loadn iaddr iaddra faddr storev newslice binv lookv mupd mdel mlenv mentry mestore slicev slicev3 slices indexs indexav textv rangev nexts clearv shiftv eqaggv convi buildv pickv lens lenl unv nilchk extractv partn JOIN
section
variable {w0 w : World} {F0 : List Nat} {d : Nat} {s : Dk} {R : Value → World → Prop}
theorem r11_Right (a b c : Int) (hR : ∀ w', Fr [] w w' → R (.bool (cfgB a b c)) w') : CALL PR F_tumbrelref11_Right [.agg [.int .i64 a, .int .i64 b, .int .i64 c].toArray] w R := by
  refine C_tumbrelref11_Right ?_
  unfold M_tumbrelref11_Right
  refine NEW_intro fun w1 b1 f1 z1 => ?_
  replace b1 : blk w1 (hsz w) = some (.cells [Value.int .i64 a, .int .i64 b, .int .i64 c].toArray 40 (0, 0)) := b1
  have hR' := hR w1 f1
  unfold cfgB at hR'
  by_cases h1 : 1 ≤ a
  · by_cases h2 : a ≤ 8
    · by_cases h3 : 0 ≤ b
      · by_cases h4 : b ≤ 64
        · by_cases h5 : 1 ≤ c
          · (repeat refine gg ?_)
            simpa [h1, h2, h3, h4, h5] using hR'
          · (repeat refine gg ?_)
            simpa [h1, h2, h3, h4, h5] using hR'
        · (repeat refine gg ?_)
          simpa [h1, h2, h3, h4] using hR'
      · (repeat refine gg ?_)
        simpa [h1, h2, h3] using hR'
    · (repeat refine gg ?_)
      simpa [h1, h2] using hR'
  · (repeat refine gg ?_)
    simpa [h1] using hR'
theorem r16_Right (r : Rt) (hR : ∀ w', Fr [] w w' → R (.bool (rightT r)) w') : CALL PR F_tumbrelref16_Right [.agg (encT r).toArray] w R := by
  refine C_tumbrelref16_Right ?_
  unfold M_tumbrelref16_Right
  refine NEW_intro fun w1 b1 f1 z1 => ?_
  replace b1 : blk w1 (hsz w) = some (.cells (encT r).toArray 42 (0, 0)) := b1
  have el : loadn 3 w1 (.pointer (some ⟨hsz w, 0 + 1, none⟩)) = some (.agg [Value.int .i64 r.lanes, .int .i64 r.pay, .int .i64 r.del].toArray) := by
    rw [loadn_blk b1 (by simp [encT])]; rfl
  (repeat refine gg ?_)
  refine r11_Right _ _ _ fun w2 f2 => ?_
  have b2 := f2.some (by simp) b1
  have hR' := hR w2 (f1.trans' f2)
  unfold rightT at hR'
  cases hc : cfgB r.lanes r.pay r.del with
  | false =>
    rw [hc] at hR'
    (repeat refine gg ?_)
    simpa using hR'
  | true =>
    rw [hc] at hR'
    by_cases h1 : (1 : Int) ≤ (r.gen : Int)
    · have p1 : decide (1 ≤ r.gen) = true := decide_eq_true (by omega)
      obtain ⟨L, hL⟩ : ∃ L : Int, L = 9999999999 := ⟨_, rfl⟩
      rw [← hL]
      by_cases h2 : (r.gen : Int) ≤ L
      · have p2 : decide (r.gen < 10000000000) = true := decide_eq_true (by omega)
        by_cases h3 : 64 ≤ r.seg
        · have p3 : decide (64 ≤ r.seg) = true := decide_eq_true h3
          rw [p1, p2, p3] at hR'
          (repeat refine gg ?_)
          simpa only [Bool.true_and, Bool.and_true] using hR'
        · have p3 : decide (64 ≤ r.seg) = false := decide_eq_false h3
          rw [p1, p2, p3] at hR'
          (repeat refine gg ?_)
          simpa only [Bool.true_and, Bool.and_true, Bool.false_and, Bool.and_false] using hR'
      · have p2 : decide (r.gen < 10000000000) = false := decide_eq_false (by omega)
        rw [p1, p2] at hR'
        (repeat refine gg ?_)
        simpa only [Bool.true_and, Bool.and_true, Bool.false_and, Bool.and_false] using hR'
    · have p1 : decide (1 ≤ r.gen) = false := decide_eq_false (by omega)
      rw [p1] at hR'
      (repeat refine gg ?_)
      simpa only [Bool.true_and, Bool.and_true, Bool.false_and, Bool.and_false] using hR'
theorem r16_There (h : At w0 F0 (rfHP d s) w) (hw : s.Wf) (hn : s.dirs.length < 100000000) (n : ByteArray) (hR : ∀ w', At w0 F0 (rfHP d s) w' → Fr [] w w' → R (.bool (s.find n).isSome) w') : CALL PR F_tumbrelref16_There [ptrTo d, .string n] w R := by
  refine C_tumbrelref16_There ?_
  unfold M_tumbrelref16_There
  refine rf_Names h hw (by omega) fun w1 v G h1 s1 g1 f1 => ?_
  rw [← mem_names (hw.rise _ (now_mem hw))] at hR
  have h60 := hw.many _ (now_mem hw)
  have hlm : (s.now.map (·.1)).length = s.now.length := by simp
  generalize s.now.map (·.1) = xs at s1 hR hlm
  have hlen := s1.len
  refine loop_up 0 xs.length (fun i w' => w' = w1 ∧ ∀ x ∈ xs.take i, x ≠ n) ⟨rfl, by simp⟩ (by omega) ?_
  rintro i w2 - hi ⟨rfl, e⟩ J m hJ
  by_cases hlt : i < xs.length
  · have hx := List.getElem?_eq_getElem hlt
    have hm := List.getElem_mem hlt
    generalize xs[i] = x at hx hm
    obtain ⟨b, o, ia, _, _, l1⟩ := s1.arr.spot hx rfl .i64
    by_cases hn2 : x = n
    · (repeat (first | (apply BND_step; exact (l1 (w' := w2) rfl (j := 0) rfl)) | refine gg ?_))
      have := hR _ h1 f1
      rwa [List.any_eq_true.2 ⟨x, hm, decide_eq_true hn2⟩] at this
    · (repeat (first | (apply BND_step; exact (l1 (w' := w2) rfl (j := 0) rfl)) | refine gg ?_))
      refine hJ _ hlt ⟨rfl, fun y hy => ?_⟩
      rw [List.take_add_one, hx] at hy
      rcases List.mem_append.1 hy with hy | hy
      · exact e y hy
      · simp at hy; subst hy; exact hn2
  · (repeat refine gg ?_)
    have := hR _ h1 f1
    rw [List.take_of_length_le (by omega)] at e
    have hf : xs.any (fun x => decide (x = n)) = false := List.any_eq_false.2 fun x hx => by simpa using e x hx
    rwa [hf] at this
theorem r16_Write (h : At w0 F0 (rfHP d s) w) (hi : Inv s) (hn : s.dirs.length < 10000000) (hn2 : s.files.length < 10000000) (r : Rt) (hR : ∀ w', At w0 F0 (rfHP d (writeT s r).1) w' → R (.int .i64 (writeT s r).2) w') : CALL PR F_tumbrelref16_Write [ptrTo d, .agg (encT r).toArray] w R := by
  refine C_tumbrelref16_Write ?_
  unfold M_tumbrelref16_Write
  refine NEW_intro fun w1 b1 f1 z1 => ?_
  replace b1 : blk w1 (hsz w) = some (.cells (encT r).toArray 42 (0, 0)) := b1
  (repeat (first | refine BND_step (loadn_all' b1 (encT_len r)) ?_ | refine gg ?_))
  refine r16_Right r fun w2 f2 => ?_
  have b2 := f2.some (by simp) b1
  have f02 := f1.trans' f2
  cases hr : rightT r with
  | false =>
    simp only [write_no hr] at hR
    (repeat refine gg ?_)
    exact hR w2 (h.fr0 f02)
  | true =>
    have hT := rightT_iff.1 hr
    obtain ⟨q1, q2, q3, q4, q5⟩ := hT
    (repeat (first | refine BND_step (conv_i64u ⟨by omega, by omega⟩) ?_ | refine gg ?_))
    refine newparts_step encU_len (val := fun x : Nat => Value.int .u64 (x : Int)) (fun _ => rfl) (numsT r) rfl rfl fun t w3 s3 f3 z3 => ?_
    obtain ⟨x3, rfl⟩ := slc_sv s3
    (repeat (first | refine gg ?_ | (apply BND_build ([.int .i64 12, x3.v, .string .empty]); exact rfl)))
    refine r5_Bytes (nv := x3) (ns := numsT r) 12 .empty s3.arr (nums_small (rightT_iff.1 hr)) (fun w4 h4 _ => ?_) fun w4 v4 G4 _ s4 g4 f4 => ?_
    · exfalso
      have := right12 (numsT r) rfl
      have e : (ByteArray.empty).size = ([] : List UInt8).length := rfl
      rw [e, this] at h4
      cases h4
    replace s4 : Slc encB 1 w4 v4 (bytesT r) G4 := s4
    have f04 := (f02.trans' f3).trans' f4
    obtain ⟨A, ha, lt, zA, back⟩ := At.re3 h f04
    have g3 := (f02.trans' f3).grow
    have g4A : ∀ b ∈ G4, b ∉ A := fun b hb hb' => by have := g4 b hb; have := lt b hb'; omega
    have hbl := (bytesT_len (rightT_iff.1 hr)).2
    have hR' : ∀ w', At w4 A (rfHP d (thenT (thenT (thenT (thenT (thenT (step1 s) fun s => create s nd) fun s => append s nd (bytesT r)) fun s => sync s nd) fun s => rename s nd nf) dirsync).1) w' → R (.int .i64 (thenT (thenT (thenT (thenT (thenT (step1 s) fun s => create s nd) fun s => append s nd (bytesT r)) fun s => sync s nd) fun s => rename s nd nf) dirsync).2) w' := by
      have e : writeT s r = thenT (thenT (thenT (thenT (thenT (step1 s) fun s => create s nd) fun s => append s nd (bytesT r)) fun s => sync s nd) fun s => rename s nd nf) dirsync := by unfold writeT; rw [if_neg (by rw [hr]; simp)]
      rw [e] at hR
      exact fun w' h' => hR w' (back _ _ h')
    clear hR
    have n1 := near_step1 hi
    obtain ⟨i1, d1, l1⟩ := n1
    have l4 := s4.len
    (repeat refine gg ?_)
    refine r16_There ha hi.wf (by omega) nd fun w5 h5 f5 => ?_
    refine join_w (fun w' => (step1 s).2 = 0 ∧ At w4 A (rfHP d (step1 s).1) w') (fun K hK => ?_) (fun w6 hq => ?_)
    · cases hf : (s.find nd).isSome with
      | false =>
        have e : step1 s = (s, 0) := by unfold step1; rw [hf]; rfl
        (repeat refine gg ?_)
        exact hK _ ⟨by rw [e], by rw [e]; exact h5⟩
      | true =>
        have e : step1 s = delete s nd := by unfold step1; rw [hf]; rfl
        (repeat refine gg ?_)
        refine rf_Delete h5 hi.wf (by omega) nd fun w6 h6 => ?_
        rw [← e] at h6 ⊢
        by_cases he : (step1 s).2 = 0
        · (repeat refine gg ?_)
          exact hK _ ⟨he, h6⟩
        · simp only [thenT_no he] at hR'
          (repeat refine gg ?_)
          exact hR' _ h6
    · obtain ⟨e1, h6⟩ := hq
      rw [thenT_ok e1] at hR'
      generalize (step1 s).1 = s1 at *
      obtain ⟨i2, d2, l2⟩ := near_create i1 nd
      refine rf_Create h6 i1.wf (by omega) (by omega) nd (by decide) fun w7 h7 => ?_
      by_cases e2 : (create s1 nd).2 = 0
      · rw [thenT_ok e2] at hR'
        generalize (create s1 nd) = x2 at *
        obtain ⟨i3, d3, l3⟩ := near_append i2 nd (bytesT r)
        (repeat refine gg ?_)
        refine rf_Append h7 i2.wf (by omega) (by omega) nd (bs := bytesT r) (by omega) l4 (fun w' fr => (s4.fr fr g4A).loads encB_len) fun w8 h8 => ?_
        by_cases e3 : (append x2.1 nd (bytesT r)).2 = 0
        · rw [thenT_ok e3] at hR'
          generalize (append x2.1 nd (bytesT r)) = x3' at *
          obtain ⟨i4, d4, l4'⟩ := near_sync i3 nd
          (repeat refine gg ?_)
          refine rf_Sync h8 i3.wf (by omega) nd fun w9 h9 => ?_
          by_cases e4 : (sync x3'.1 nd).2 = 0
          · rw [thenT_ok e4] at hR'
            generalize (sync x3'.1 nd) = x4 at *
            obtain ⟨i5, d5, l5⟩ := near_rename i4 nd nf
            (repeat refine gg ?_)
            refine rf_Rename h9 i4.wf (by omega) nd nf (by decide) fun w10 h10 => ?_
            by_cases e5 : (rename x4.1 nd nf).2 = 0
            · rw [thenT_ok e5] at hR'
              generalize (rename x4.1 nd nf) = x5 at *
              (repeat refine gg ?_)
              exact rf_DirSync h10 i5.wf (by omega) hR'
            · simp only [thenT_no e5] at hR'
              (repeat refine gg ?_)
              exact hR' _ h10
          · simp only [thenT_no e4] at hR'
            (repeat refine gg ?_)
            exact hR' _ h9
        · simp only [thenT_no e3] at hR'
          (repeat refine gg ?_)
          exact hR' _ h8
      · simp only [thenT_no e2] at hR'
        (repeat refine gg ?_)
        exact hR' _ h7
theorem r16_Read (h : At w0 F0 (rfHP d s) w) (hi : Inv s) (hn : s.dirs.length < 100000000) (hR : ∀ w', At w0 F0 (rfHP d s) w' → Fr [] w w' → R (.tuple #[.agg (encT (readT s).1).toArray, .int .i64 (readT s).2]) w') : CALL PR F_tumbrelref16_Read [ptrTo d] w R := by
  refine C_tumbrelref16_Read ?_
  unfold M_tumbrelref16_Read
  refine NEW_intro fun w1 b1 f1 z1 => ?_
  replace b1 : blk w1 (hsz w) = some (.cells (encT zeroT).toArray 42 (0, 0)) := b1
  have bad : ∀ (w6 : World) (e : Int), Fr [] w w6 → blk w6 (hsz w) = some (.cells (encT zeroT).toArray 42 (0, 0)) → readT s = (zeroT, e) →
      (BND (buildv #[(Value.int .u64 0), (Value.int .i64 0), (Value.int .i64 0), (Value.int .i64 0), (Value.int .i64 0)] []) fun t => BND (storev 5 w6 (.pointer (some ⟨hsz w, 0, none⟩)) t) fun w7 => BND (loadn 5 w7 (.pointer (some ⟨hsz w, 0, none⟩))) fun r => R (.tuple #[r, (Value.int .i64 e)]) w7) := by
    intro w6 e f6 b6 he
    rw [he] at hR
    (repeat (first | refine gg ?_ | (apply BND_build (encT zeroT); exact rfl)))
    refine put_step (n := 5) (vs := encT zeroT) b6 rfl rfl (encT_one _) (by simp [encT]) fun w7 b7 f7 _ => ?_
    (repeat (first | refine BND_step (loadn_all' b7 rfl) ?_ | refine gg ?_))
    have f07 : Fr [] w w7 := f6.trans f7 fun b hb => .inr (by simp at hb; omega)
    exact hR w7 (h.fr0 f07) f07
  refine rf_Read (h.fr0 f1) hi.wf (by omega) nf fun w2 v2 G2 _ s2 g2 f2 => ?_
  have b2 := f2.some (by simp) b1
  have f02 := f1.trans' f2
  by_cases he' : ¬ ((Disk.read s nf).2 = 0)
  · (repeat refine gg ?_)
    exact bad w2 _ f02 b2 (by unfold readT; rw [if_pos he'])
  have he : (Disk.read s nf).2 = 0 := Decidable.of_not_not he'
  have hrd : readT s = fromB (Disk.read s nf).1 := by unfold readT; rw [if_neg (fun h => h he)]
  have hlen : (Disk.read s nf).1.length < 10000000 := by
    unfold Disk.read
    split
    · simp
    · split
      · simp
      · rename_i f hf
        have := hi.wf.small _ (List.mem_of_getElem? (wf_pick hi.wf hf))
        have := hi.wf.room
        show (fileAt s f).b.length < _
        omega
  generalize (Disk.read s nf).1 = bs at s2 hrd hlen
  rw [he]
  (repeat refine gg ?_)
  refine r5_All s2.arrC hlen fun w4 v ev G B E h4 _ gG gB _ f4 => ?_
  have b4 := f4.some (by simp) b2
  have f04 := f02.trans' f4
  have hgood := recAllF_good (frAll bs 0).1 0 (frAll bs 0).2.2
  rw [show recAllF (frAll bs 0).1 0 (frAll bs 0).2.2 = recAll bs from rfl] at hgood
  unfold fromB at hrd
  (repeat refine gg ?_)
  by_cases he2' : ¬ ((recAll bs).2.2 = 0)
  · (repeat refine gg ?_)
    exact bad w4 _ f04 b4 (by rw [hrd, if_pos he2'])
  have he2 : (recAll bs).2.2 = 0 := Decidable.of_not_not he2'
  rw [if_neg (fun h => h he2)] at hrd
  (repeat (first | refine BND_step h4.len ?_ | refine gg ?_))
  by_cases hl' : ¬ (((recAll bs).1.length : Int) = 1)
  · (repeat refine gg ?_)
    refine bad w4 2 f04 b4 ?_
    rw [hrd]
    match hq : (recAll bs).1 with
    | [x] => rw [hq] at hl'; exact absurd rfl hl'
    | [] => rfl
    | _ :: _ :: _ => rfl
  have hl : ((recAll bs).1.length : Int) = 1 := Decidable.of_not_not hl'
  obtain ⟨x, hx⟩ : ∃ x, (recAll bs).1 = [x] := by
    match hq : (recAll bs).1 with
    | [x] => exact ⟨x, rfl⟩
    | [] => rw [hq] at hl; simp at hl
    | _ :: _ :: _ => rw [hq] at hl; simp at hl; omega
  rw [hx] at hrd h4 hgood
  simp only at hrd
  obtain ⟨hg1, hg2⟩ := hgood x (by simp)
  obtain ⟨⟨cs, c1, c2, c3⟩, _⟩ := h4
  obtain ⟨sn, H, d1, d2, d3⟩ := c3 0 x rfl
  obtain ⟨bp, op, ia, _, hbp, l1⟩ := c1.arr.spot d1 rfl .i64
  have hll : lenl v = some (.int .i64 1) := by rw [c1.len, c2]; rfl
  (repeat (first | (apply BND_step; exact (l1 (w' := w4) rfl (j := 0) rfl)) | refine gg ?_))
  by_cases hk' : ¬ ((x.kind : Int) = 12)
  · (repeat refine gg ?_)
    exact bad w4 2 f04 b4 (by rw [hrd, if_pos (by omega)])
  have hk : (x.kind : Int) = 12 := Decidable.of_not_not hk'
  have hk' : x.kind = 12 := by omega
  rw [if_neg (fun h => h hk')] at hrd
  have h5 : x.n.length = 5 := by
    obtain ⟨_, _, h, _⟩ := right_known hg1
    rw [h, hk']; rfl
  obtain ⟨n0, n1, n2, n3, n4, hns⟩ : ∃ a b c d e, x.n = [a, b, c, d, e] := by
    match hq : x.n, h5 with
    | [a, b, c, d, e], _ => exact ⟨a, b, c, d, e, rfl⟩
  rw [hns] at d2
  have d2d : Slc encU 1 w4.drew sn.v [n0, n1, n2, n3, n4] H := d2.congr fun _ _ => rfl
  obtain ⟨p0, o0, i0, _, hp0, k0⟩ := d2d.arr.spot (i := 0) (x := n0) rfl rfl .i64
  obtain ⟨p1, o1, i1, _, hp1, k1⟩ := d2d.arr.spot (i := 1) (x := n1) rfl rfl .i64
  obtain ⟨p2, o2, i2, _, hp2, k2⟩ := d2d.arr.spot (i := 2) (x := n2) rfl rfl .i64
  obtain ⟨p3, o3, i3, _, hp3, k3⟩ := d2d.arr.spot (i := 3) (x := n3) rfl rfl .i64
  obtain ⟨p4, o4, i4, _, hp4, k4⟩ := d2d.arr.spot (i := 4) (x := n4) rfl rfl .i64
  have k0k : ∀ w', Fr [] w4.drew w' → load1 w' (.pointer (some ⟨p0, o0, none⟩)) = some (.int .u64 (n0 : Int)) := fun w' fr => k0 (fr.keep p0 hp0 (by simp)) (j := 0) rfl
  have k1k : ∀ w', Fr [] w4.drew w' → load1 w' (.pointer (some ⟨p1, o1, none⟩)) = some (.int .u64 (n1 : Int)) := fun w' fr => k1 (fr.keep p1 hp1 (by simp)) (j := 0) rfl
  have k2k : ∀ w', Fr [] w4.drew w' → load1 w' (.pointer (some ⟨p2, o2, none⟩)) = some (.int .u64 (n2 : Int)) := fun w' fr => k2 (fr.keep p2 hp2 (by simp)) (j := 0) rfl
  have k3k : ∀ w', Fr [] w4.drew w' → load1 w' (.pointer (some ⟨p3, o3, none⟩)) = some (.int .u64 (n3 : Int)) := fun w' fr => k3 (fr.keep p3 hp3 (by simp)) (j := 0) rfl
  have k4k : ∀ w', Fr [] w4.drew w' → load1 w' (.pointer (some ⟨p4, o4, none⟩)) = some (.int .u64 (n4 : Int)) := fun w' fr => k4 (fr.keep p4 hp4 (by simp)) (j := 0) rfl
  have hof : ofRec9 x = ⟨n0, small9 n1, small9 n2, small9 n3, small9 n4⟩ := by unfold ofRec9; rw [hns]; rfl
  have f4d := Fr.drew [] w4
  (repeat (first | (apply BND_step; exact (l1 (w' := w4) rfl (j := 1) rfl)) | refine gg ?_))
  refine ⟨fun _ w' => Fr [] w4.drew w', Fr.refl _ _, Fr.refl _ _, Fr.refl _ _, Fr.refl _ _, Fr.refl _ _, ?_⟩
  (repeat (first | refine BND_step (small9_v n1) ?_ | refine BND_step (small9_c n1) ?_ | refine BND_step (small9_v n2) ?_ | refine BND_step (small9_c n2) ?_ | refine BND_step (small9_v n3) ?_ | refine BND_step (small9_c n3) ?_ | refine BND_step (small9_v n4) ?_ | refine BND_step (small9_c n4) ?_ | refine gg ?_ | refine FLT.mk _ (fun _ hw_ => (k0k _ hw_)) ?_ | refine FLT.mk _ (fun _ hw_ => (k1k _ hw_)) ?_ | refine FLT.mk _ (fun _ hw_ => (k2k _ hw_)) ?_ | refine FLT.mk _ (fun _ hw_ => (k3k _ hw_)) ?_ | (apply BND_build ([.int .i64 (small9 n1), .int .i64 (small9 n2), .int .i64 (small9 n3)]); exact rfl) | refine FLT.mk _ (fun _ hw_ => (k4k _ hw_)) ?_ | (apply BND_build (encT ⟨n0, small9 n1, small9 n2, small9 n3, small9 n4⟩); exact rfl)))
  refine NEW_intro fun w7 b7 f7 z7 => ?_
  refine ⟨f7, f7, f7, f7, f7, ?_⟩
  refine put_step (n := 5) (vs := encT ⟨n0, small9 n1, small9 n2, small9 n3, small9 n4⟩) b7 rfl rfl (encT_one _) (by simp [encT]) fun w8 b8 f8 _ => ?_
  have f04d := f04.trans' f4d
  have e4 : hsz w4.drew = hsz w4 := rfl
  have f08 : Fr [] w w8 := (f04d.trans' f7).trans f8 fun b hb => .inr (by have := f04d.grow; simp at hb; omega)
  (repeat (first | refine BND_step (loadn_all' b8 rfl) ?_ | refine gg ?_))
  refine r16_Right _ fun w9 f9 => ?_
  have b9 := f9.some (by simp) b8
  have bz : blk w9 (hsz w) = some (.cells (encT zeroT).toArray 42 (0, 0)) := by
    have q1 := f4d.some (by simp) b4
    have q2 := f7.some (by simp) q1
    have q3 := f8.some (by have := blk_lt q1; simp; omega) q2
    exact f9.some (by simp) q3
  have f09 := f08.trans' f9
  rw [← hof]
  have hr9 := right9 x
  cases hr : rightT (ofRec9 x) with
  | false =>
    rw [← hr9, hr] at hrd
    (repeat refine gg ?_)
    exact bad w9 2 f09 bz (by rw [hrd]; rfl)
  | true =>
    rw [← hr9, hr] at hrd
    simp only [if_true] at hrd
    have he9 := ofRec9_eq (x := x) (by rw [← hr9, hr])
    rw [hrd, ← he9, hof] at hR
    (repeat (first | refine BND_step (loadn_all' b9 rfl) ?_ | refine gg ?_))
    refine put_step (n := 5) (vs := encT ⟨n0, small9 n1, small9 n2, small9 n3, small9 n4⟩) bz rfl rfl (encT_one _) (by simp [encT]) fun w11 b11 f11 _ => ?_
    (repeat (first | refine BND_step (loadn_all' b11 rfl) ?_ | refine gg ?_))
    have f011 : Fr [] w w11 := f09.trans f11 fun b hb => .inr (by simp at hb; omega)
    exact hR w11 (h.fr0 f011) f011
end
end Go.Proofs.YtofllgbdphakiaaGreat
end

section
namespace Go.Proofs.YtofllgbdphakiaaGreat
open Go.Den Go.Disk Go.Vint Go.Crc Go.Frame Go.Rec Go.Root
theorem eqT_cells (x y : Rt) : eqCells [(0, (.int .u64)), (1, (.int .i64)), (2, (.int .i64)), (3, (.int .i64)), (4, (.int .i64))] (encT x).toArray (encT y).toArray = some (decide (x = y)) := by
  rw [eqCells_int (xs := encT x) (ys := encT y) rfl rfl, eqCells_int (xs := encT x) (ys := encT y) rfl rfl, eqCells_int (xs := encT x) (ys := encT y) rfl rfl, eqCells_int (xs := encT x) (ys := encT y) rfl rfl, eqCells_int (xs := encT x) (ys := encT y) rfl rfl, eqCells_nil]
  obtain ⟨a, b, c, d, e⟩ := x
  obtain ⟨a', b', c', d', e'⟩ := y
  simp only [Rt.mk.injEq, Int.ofNat_inj]
  by_cases h1 : a = a' <;> by_cases h2 : b = b' <;> by_cases h3 : c = c' <;> by_cases h4 : d = d' <;> by_cases h5 : e = e' <;> simp [h1, h2, h3, h4, h5]
theorem eqT (x y : Rt) : eqaggv [(0, (.int .u64)), (1, (.int .i64)), (2, (.int .i64)), (3, (.int .i64)), (4, (.int .i64))] .eql (.agg (encT x).toArray) (.agg (encT y).toArray) = some (.bool (decide (x = y))) := eqagg_eq (eqT_cells x y)
theorem neT (x y : Rt) : eqaggv [(0, (.int .u64)), (1, (.int .i64)), (2, (.int .i64)), (3, (.int .i64)), (4, (.int .i64))] .neq (.agg (encT x).toArray) (.agg (encT y).toArray) = some (.bool (!decide (x = y))) := eqagg_ne (eqT_cells x y)
/-- what a write makes, and answers. -/
theorem write_any {s : Dk} {o : Option Rt} (h : StT s o) (hroom : 100 ≤ s.room) (r : Rt) : ∃ o', StT (writeT s r).1 o' ∧ (writeT s r).1.room = s.room ∧ ((rightT r = true ∧ (writeT s r).2 = 0 ∧ o' = some r) ∨ (rightT r = false ∧ (writeT s r).2 = 1 ∧ o' = o)) := by
  cases hr : rightT r with
  | true =>
    obtain ⟨h1, h2, h3⟩ := write_st h (rightT_iff.1 hr) hroom
    exact ⟨some r, h2, h3, .inl ⟨rfl, h1, rfl⟩⟩
  | false =>
    rw [write_no hr]
    exact ⟨o, h, rfl, .inr ⟨rfl, rfl, rfl⟩⟩
theorem st_lens {s : Dk} {o : Option Rt} (h : StT s o) : s.dirs.length = 1 := by
  have := h.at_
  cases o with
  | none => simp only at this; rw [this]; rfl
  | some r => obtain ⟨_, f, h1, _⟩ := this; rw [h1]; rfl
theorem write_files (s : Dk) (r : Rt) : (writeT s r).1.files.length ≤ s.files.length + 1 := by
  have keep : ∀ (x : Dk × Int) (f : Dk → Dk × Int), (∀ s, (f s).1.files.length = s.files.length) → (thenT x f).1.files.length = x.1.files.length := fun x f hf => by
    unfold thenT; split
    · exact hf _
    · rfl
  have kd : ∀ s n, (delete s n).1.files.length = s.files.length := fun s n => by unfold delete; simp only; split <;> exact congrArg _ (can_keep s _).1
  have ka : ∀ s n b, (append s n b).1.files.length = s.files.length := fun s n b => by
    unfold append setF; simp only; split
    · simp only [List.length_set]; exact congrArg _ (can_keep s _).1
    · exact congrArg _ (can_keep s _).1
  have ks : ∀ s n, (sync s n).1.files.length = s.files.length := fun s n => by
    unfold sync setF; simp only; split
    · simp only [List.length_set]; exact congrArg _ (can_keep s _).1
    · exact congrArg _ (can_keep s _).1
  have kr : ∀ s a b, (rename s a b).1.files.length = s.files.length := fun s a b => by unfold rename; simp only; split <;> exact congrArg _ (can_keep s _).1
  have ky : ∀ s, (dirsync s).1.files.length = s.files.length := fun s => by unfold dirsync; simp only; split <;> exact congrArg _ (can_keep s _).1
  unfold writeT
  split
  · simp only; omega
  · rw [keep _ _ ky, keep _ _ (fun s => kr s nd nf), keep _ _ (fun s => ks s nd), keep _ _ (fun s => ka s nd _)]
    have h1 : (step1 s).1.files.length = s.files.length := by unfold step1; split; exact kd s nd; rfl
    unfold thenT
    split
    · rw [← h1]
      unfold create; simp only; split
      · simp
      · exact Nat.le_trans (Nat.le_of_eq (congrArg _ (can_keep _ _).1)) (by omega)
    · omega
theorem crash_st {s : Dk} {o : Option Rt} (h : StT s o) : StT (crash s 0 []) o := by
  have hi := inv_crash h.inv 0 []
  refine ⟨hi, rfl, rfl, ?_⟩
  have ha := h.at_
  cases o with
  | none =>
    simp only at ha ⊢
    unfold crash; rw [ha]; rfl
  | some r =>
    obtain ⟨hr, f, h1, h2⟩ := ha
    refine ⟨hr, f, ?_, ?_⟩
    · unfold crash; rw [h1]; rfl
    · unfold crash
      rw [h1]
      have hf := (List.getElem?_eq_some_iff.1 h2).1
      have hg : s.files.getD f ⟨[], 0⟩ = ⟨bytesT r, (bytesT r).length⟩ := by rw [List.getD_eq_getElem?_getD, h2]; rfl
      show (crashF [] [(nf, f)] 0 s.files)[f]? = _
      simp only [crashF, hg, tailOf]
      rw [List.getElem?_set_self hf]
      simp
def awT : Rt := ⟨3, 2, 5, 1, 64⟩
theorem aw_right : rightT awT = true := by decide +kernel
theorem zero_right : rightT zeroT = false := by decide +kernel
theorem arr_nilI {w : World} : Arr encI 1 w (.slice none 0 0) [] := ⟨none, 0, rfl, .inl rfl⟩
set_option linter.unusedSimpArgs false
set_option linter.unusedVariables false
set_option maxRecDepth 20000
set_option maxHeartbeats 4000000
attribute [local congr] BND_cg COND_cg GEF_cg
attribute [local irreducible] capl slicea load1 loadn iaddr iaddra faddr storev newslice binv lookv mupd mdel mlenv mentry mestore slicev slicev3 slices indexs indexav textv rangev nexts clearv shiftv eqaggv convi buildv pickv lens lenl unv nilchk extractv partn JOIN
section
variable {w : World} {R : Value → World → Prop}
theorem rt_awake (hR : ∀ w', Fr [] w w' → R (.bool true) w') : CALL PR F_tumbrellaw16_awake [] w R := by
  refine C_tumbrellaw16_awake ?_
  unfold M_tumbrellaw16_awake
  refine dk_New 200 (fun h => by omega) fun hroom w1 d h1 => ?_
  (repeat (first | refine BND_step ptr_nil ?_ | refine gg ?_))
  have t0 : StT (empty 200) none := st_empty hroom
  have r0 := read_st t0
  simp only at r0
  refine rt_Read h1 t0.inv (by simp [empty]) fun w2 f2 => ?_
  have h2 := h1.fr0 f2
  rw [r0]
  (repeat refine gg ?_)
  refine box_step (n := 5) (zs := [_, _, _, _, _]) (vs := encT zeroT) rfl rfl (encT_one _) (by simp [encT]) fun w4 b4 f4 z4 => ?_
  (repeat (first | refine gg ?_ | (apply BND_build ([.int .i64 2, .int .i64 5, .int .i64 1]); exact rfl) | (apply BND_build (encT awT); exact rfl)))
  refine box_step (n := 5) (zs := [_, _, _, _, _]) (vs := encT awT) rfl rfl (encT_one _) (by simp [encT]) fun w6 b6 f6 z6 => ?_
  have f26 := f4.trans' f6
  obtain ⟨A, ha, hA, back⟩ := At.re2 h2 f26
  obtain ⟨u1, u2, u3⟩ := write_st t0 (rightT_iff.1 aw_right) (r := awT) (by show (100 : Int) ≤ 200; omega)
  have ud := st_lens u2
  have uf := write_files (empty 200) awT
  have uf0 : (empty 200).files.length = 0 := rfl
  (repeat (first | refine BND_step (loadn_all' b6 rfl) ?_ | refine gg ?_))
  refine rt_Write ha t0.inv (by simp [empty]) (by simp [empty]) awT fun w7 h7 => ?_
  have b7 := h7.frame.some (fun hb => by have := hA _ hb; have := f4.grow; omega) b6
  rw [u1]
  generalize (writeT (empty 200) awT).1 = s1 at h7 u2 u3 ud uf
  (repeat refine gg ?_)
  refine dk_Crash h7 u2.inv.wf (by omega) 0 (tails := []) (fun _ _ => arr_nilI) fun w8 h8 => ?_
  have b8 := h8.frame.some (fun hb => by have := hA _ hb; have := f4.grow; omega) b6
  have t8 := crash_st u2
  have r8 := read_st t8
  have d8 := st_lens t8
  have f8 : (crash s1 0 []).files.length = s1.files.length := crashF_len [] _ 0 s1.files
  simp only at r8
  (repeat refine gg ?_)
  refine rt_Read h8 t8.inv (by omega) fun w9 f9 => ?_
  rw [r8]
  have b9 := f9.some (by simp) b8
  (repeat refine gg ?_)
  refine box_step (n := 5) (zs := [_, _, _, _, _]) (vs := encT awT) rfl rfl (encT_one _) (by simp [encT]) fun w11 b11 f11 z11 => ?_
  have b61 := f11.some (by simp) b9
  have ee := eqT awT awT
  rw [decide_eq_true rfl] at ee
  (repeat (first | refine BND_step (loadn_all' b11 rfl) ?_ | refine BND_step (loadn_all' b61 rfl) ?_ | refine gg ?_))
  refine rt_Right _ fun w12 f12 => ?_
  rw [aw_right]
  have h12 := ((h8.fr0 f9).fr0 f11).fr0 f12
  (repeat (first | refine gg ?_ | (apply BND_build (encT zeroT); exact rfl)))
  refine rt_Write h12 t8.inv (by omega) (by omega) zeroT fun w13 h13 => ?_
  rw [write_no zero_right]
  (repeat refine gg ?_)
  exact hR _ (back _ _ h13).frame
end
end Go.Proofs.YtofllgbdphakiaaGreat
end

section
namespace Go.Proofs.YtofllgbdphakiaaGreat
open Go.Den Go.Disk
theorem crash_pick {s : Dk} (hp : 0 < s.dirs.length) (op : Int) : ∃ j l, s.dirs[j]? = some l ∧ s.dirs.getD (min op.toNat (s.dirs.length - 1)) [] = l ∧ j < s.dirs.length ∧ max2v (.int .i64 op) (.int .i64 0) = some (.int .i64 (if op < 0 then 0 else op)) ∧
    min2v (.int .i64 (if op < 0 then 0 else op)) (.int .i64 ((s.dirs.length - 1 : Nat) : Int)) = some (.int .i64 ((j : Nat) : Int)) := by
  have hj : min op.toNat (s.dirs.length - 1) < s.dirs.length := by omega
  refine ⟨min op.toNat (s.dirs.length - 1), _, List.getElem?_eq_getElem hj, by rw [List.getD_eq_getElem?_getD, List.getElem?_eq_getElem hj]; rfl, hj, rfl, ?_⟩
  show some (Value.int .i64 (if ((s.dirs.length - 1 : Nat) : Int) < (if op < 0 then 0 else op) then ((s.dirs.length - 1 : Nat) : Int) else (if op < 0 then 0 else op))) = _
  congr 2
  split <;> split <;> omega
theorem tail_min {x : Fl} {tails : List Int} {i : Nat} {t : Int} (hx : x.sure ≤ x.b.length) (htx : tails[i]? = some t) :
    max2v (.int .i64 t) (.int .i64 0) = some (.int .i64 (if t < 0 then 0 else t)) ∧ min2v (.int .i64 (if t < 0 then 0 else t)) (.int .i64 ((x.b.length - x.sure : Nat) : Int)) = some (.int .i64 ((tailOf x tails i : Nat) : Int)) := by
  refine ⟨rfl, ?_⟩
  show some (Value.int .i64 (if ((x.b.length - x.sure : Nat) : Int) < (if t < 0 then 0 else t) then ((x.b.length - x.sure : Nat) : Int) else (if t < 0 then 0 else t))) = _
  unfold tailOf
  rw [htx]
  congr 2
  simp only
  split <;> split <;> omega
set_option linter.unusedSimpArgs false
set_option linter.unusedVariables false
set_option maxRecDepth 20000
set_option maxHeartbeats 4000000
attribute [local congr] BND_cg COND_cg GEF_cg
attribute [local irreducible] capl slicea load1 loadn iaddr iaddra faddr storev newslice binv lookv mupd mdel mlenv mentry mestore slicev slicev3 slices indexs indexav textv rangev nexts clearv shiftv eqaggv convi buildv pickv lens lenl unv nilchk extractv partn JOIN
section
variable {w0 w w' : World} {F0 : List Nat} {d : Nat} {s : Dk} {R : Value → World → Prop}
theorem rf_Crash (h : At w0 F0 (rfHP d s) w) (hw : s.Wf) (hn : s.dirs.length < 1000000000) (op : Int) {tv : Value} {tails : List Int} (hta : ∀ w', Fr F0 w0 w' → Arr encI 1 w' tv tails) (hR : ∀ w', At w0 F0 (rfHP d (crash s op tails)) w' → R (.tuple #[]) w') : CALL PR F_tumbrelref06_Disk_Crash [ptrTo d, .int .i64 op, tv] w R := by
  obtain ⟨fv, dv, fc, es, hs⟩ := rf_open h
  refine C_tumbrelref06_Disk_Crash ?_
  unfold M_tumbrelref06_Disk_Crash
  obtain ⟨T, c⟩ := hs.cell (i := 0) rfl
  obtain ⟨F, ⟨_, ⟨Gd, sd, _⟩, ⟨hel, hE⟩, _⟩, _⟩ := hs.get 2 rfl
  have ldl := sd.len
  rw [hel] at ldl
  obtain ⟨j, l, hl, hld, hjl, em1, em2⟩ := crash_pick (List.length_pos_iff.2 hw.ne) op
  have hlm : l ∈ s.dirs := List.mem_of_getElem? hl
  unfold crash at hR
  rw [hld] at hR
  obtain ⟨e, Ge0, he, se0, _⟩ := hE j l hl
  obtain ⟨b1, o1, i1, _, _, l1⟩ := sd.arr.spot he rfl .i64
  unfold ptrTo
  (repeat (first | refine BND_step (subn_ (n := s.dirs.length) (m := 1) (by omega) (by omega)) ?_ | (apply BND_step; exact (l1 (w' := w) rfl (j := 0) rfl)) | refine gg ?_))
  refine newone_step (enc := encV) (x := e) encV_len rfl fun u w1 s1 f1 z1 => ?_
  (repeat refine gg ?_)
  refine rf_dir1 hs f1 s1 (fun b hb => by simp at hb; subst hb; exact Nat.le_refl _) he hl fun w2 h2 => ?_
  (repeat refine gg ?_)
  refine h2.store (i := 0) rfl ⟨rfl, rfl⟩ (by simp [rfC]) fun w3 h3 _ => ?_
  (repeat refine gg ?_)
  refine h3.store (i := 0) rfl ⟨rfl, rfl⟩ (by simp [rfC]) fun w4 h4 _ => ?_
  replace h4 : At w0 F0 (stars (rfL d { s with dirs := [l], burn := -1, gone := false } fv u fc [e])) w4 := h4
  refine rf_now h4 (by simp) (by simp) fun e' Ge he' se => ?_
  have hee : e' = e := by
    have : ([e] : List SV)[0]? = some e' := he'
    simpa using this.symm
  subst hee
  have h60 := hw.many _ hlm
  have hr : riseD l := hw.rise _ hlm
  have hok0 : FilesOk 1048576 s.files := fun x hx => ⟨hw.sure x hx, by have := hw.small x hx; have := hw.room; omega⟩
  have hlen0 : lenl e'.v = some (.int .i64 (l.length : Int)) := se.len
  clear he' se
  refine loop_up 0 l.length (fun i w' => (∃ fc, At w0 F0 (stars (rfL d { s with files := crashF tails (l.take i) 0 s.files, dirs := [l], burn := -1, gone := false } fv u fc [e'])) w') ∧ FilesOk 1048576 (crashF tails (l.take i) 0 s.files) ∧ (crashF tails (l.take i) 0 s.files).length = s.files.length)
    ⟨⟨fc, h4.fr0 (Fr.drew _ _)⟩, hok0, rfl⟩ (by omega) ?_
  rintro i w6 - hi ⟨⟨fc6, h6⟩, hok, hlen⟩ J m hJ
  by_cases hlt : i < l.length
  · have hxi := List.getElem?_eq_getElem hlt
    obtain ⟨⟨k, f⟩, hp⟩ : ∃ p, p = l[i] := ⟨_, rfl⟩
    rw [← hp] at hxi
    have hmem : (k, f) ∈ l := List.mem_of_getElem? hxi
    have hfl : f < s.files.length := hw.idx _ hlm _ hmem
    generalize hfs : crashF tails (l.take i) 0 s.files = fs at h6 hok hlen
    have hstep : crashF tails (l.take (i + 1)) 0 s.files = crash1 tails f i fs := by
      rw [List.take_add_one, hxi]
      show crashF tails (l.take i ++ [(k, f)]) 0 s.files = _
      rw [crashF_snoc, hfs]
      congr 1
      rw [List.length_take]; omega
    have hfl2 : f < fs.length := by omega
    have hx : fs[f]? = some (fs.getD f ⟨[], 0⟩) := by rw [List.getD_eq_getElem?_getD, List.getElem?_eq_getElem hfl2]; rfl
    have hxo := hok _ (List.mem_of_getElem? hx)
    have hok2 := crash1_ok (tails := tails) (i := i) hok hfl2
    have hlen2 := crash1_len tails f i fs
    have htail := tailOf_le (fs.getD f ⟨[], 0⟩) tails i
    have hc1 : crash1 tails f i fs = fs.set f ⟨(fs.getD f ⟨[], 0⟩).b.take ((fs.getD f ⟨[], 0⟩).sure + tailOf (fs.getD f ⟨[], 0⟩) tails i), (fs.getD f ⟨[], 0⟩).sure + tailOf (fs.getD f ⟨[], 0⟩) tails i⟩ := rfl
    generalize fs.getD f ⟨[], 0⟩ = x at hx hxo htail hc1
    obtain ⟨F6, ⟨_, _, ⟨_, hE6⟩, _⟩, _⟩ := h6.get 2 rfl
    obtain ⟨e2, G2, he2, se2, _⟩ := hE6 0 l rfl
    have hee2 : e2 = e' := by simpa using he2.symm
    subst hee2
    obtain ⟨bn, on, ian, _, hbn, ln⟩ := se2.arr.spot hxi rfl .i64
    obtain ⟨b, v, ia, rd, _, _, st⟩ := rf_spot h6 (f := f) (x := x) hx
    have e6 : hsz w6.drew = hsz w6 := rfl
    have ld : ∀ w', Fr [] w6 w' → load1 w' (.pointer (some ⟨bn, on + 1, none⟩)) = some (.int .i64 (f : Int)) := fun w' fr => ln (fr.keep bn hbn (by simp)) (j := 1) rfl
    (repeat refine gg ?_)
    refine ⟨fun _ w' => Fr [] w6 w', Fr.drew _ _, Fr.drew _ _, Fr.drew _ _, ?_⟩
    (repeat (first | refine gg ?_ | refine FLT.mk _ (fun _ hw_ => (rd _ hw_).1) ?_ | refine FLT.mk _ (fun _ hw_ => (ld _ hw_)) ?_))
    refine FLT.mk _ (fun _ hw_ => (rd _ hw_).2.2.2.1) ?_
    refine NEW_intro fun w7 b7 f7 z7 => ?_
    have f67 := (Fr.drew [] w6).trans' f7
    refine ⟨f67, f67, f67, ?_⟩
    refine put_step (n := 2) (vs := [v.v, .int .i64 (x.sure : Int)]) b7 rfl rfl (by intro u hu; simp at hu; rcases hu with rfl | rfl <;> rfl) (by simp) fun w8 b8 f8 _ => ?_
    have f68 : Fr [] w6 w8 := f67.trans f8 fun b hb => .inr (by simp at hb; omega)
    have b8' : blk w8.drew (hsz w6.drew) = some (.cells [v.v, .int .i64 (x.sure : Int)].toArray _ (0, 0)) := b8
    have hta8 := hta w8 (h6.frame.trans' f68.nil)
    obtain ⟨_, _, _, _, Gb, sb8⟩ := rd w8.drew (f68.trans' (Fr.drew _ _))
    (repeat (first | refine BND_step hta8.len ?_ | refine gg ?_))
    refine join_v (Q := fun v w' => v = .int .i64 ((tailOf x tails i : Nat) : Int) ∧ Fr [] w8 w') (fun K hK => ?_) ?_
    · by_cases hit : i < tails.length
      · have htx := List.getElem?_eq_getElem hit
        generalize htv : tails[i] = t at htx
        obtain ⟨bt, ot, iat, _, _, lt⟩ := hta8.spot htx rfl .i64
        obtain ⟨m1, m2⟩ := tail_min hxo.1 htx
        (repeat (first | (apply BND_step; exact (lt (w' := w8.drew) rfl (j := 0) rfl)) | refine BND_step sb8.len ?_ | refine BND_step (subn_ (n := x.b.length) (m := x.sure) hxo.1 (by omega)) ?_ | refine gg ?_))
        exact hK _ _ ⟨rfl, Fr.drew [] _⟩
      · (repeat refine gg ?_)
        have e0 : tailOf x tails i = 0 := by unfold tailOf; rw [List.getElem?_eq_none (by omega)]
        exact hK _ _ ⟨by rw [e0]; rfl, Fr.refl _ _⟩
    · rintro _ w9 ⟨rfl, f9⟩
      have f69 := (f68.trans' f9).trans' (Fr.drew [] w9)
      have e9 : hsz w9.drew = hsz w9 := rfl
      have b9 := (f9.trans' (Fr.drew [] w9)).some (by simp) b8
      have rb : ∀ w', Fr [] w9.drew w' → load1 w' (.pointer (some ⟨hsz w6.drew, 0 + 0, none⟩)) = some v.v ∧ load1 w' (.pointer (some ⟨hsz w6.drew, 0 + 1, none⟩)) = some (.int .i64 (x.sure : Int)) := fun w' fr =>
        ⟨load1_at (fr.some (by simp) b9) rfl, load1_at (fr.some (by simp) b9) rfl⟩
      obtain ⟨_, _, _, _, Gb9, sb9⟩ := rd w9.drew f69
      obtain ⟨va, ea, ca⟩ := sb9.upto encB_len (n := x.sure + tailOf x tails i) (by omega) .i64
      refine ⟨fun _ w' => Fr [] w9.drew w', Fr.refl _ _, Fr.refl _ _, Fr.refl _ _, Fr.refl _ _, Fr.refl _ _, ?_⟩
      (repeat (first | refine BND_step (addn_ (by omega)) ?_ | refine gg ?_ | refine FLT.mk _ (fun _ hw_ => (rd _ (f69.trans' hw_)).1) ?_ | refine FLT.mk _ (fun _ hw_ => (ld _ (f69.trans' hw_))) ?_ | refine FLT.mk _ (fun _ hw_ => (rb _ hw_).1) ?_ | refine FLT.mk _ (fun _ hw_ => (rb _ hw_).2) ?_))
      refine newnil_step encB fun t w10 s10 f10 z10 => ?_
      refine ⟨f10, f10, f10, f10, f10, ?_⟩
      refine APPEND_slc s10 (ca w10 fun b hb => f10.keep b (sb9.lt b hb) (by simp)) encB_len encB_one rfl (by simp; omega) (by simp; omega) fun v11 w11 G11 s11 f11 sub11 => ?_
      rw [List.nil_append] at s11
      have f911 := f10.trans f11 fun b hb => .inr (by simp at hb; omega)
      refine ⟨f911, f911, f911, ?_⟩
      have gr := f69.grow
      obtain ⟨e11, rfl⟩ := slc_sv s11
      (repeat (first | refine gg ?_ | (apply BND_build ([e11.v, .int .i64 ((x.sure + tailOf x tails i : Nat) : Int)]); exact rfl)))
      refine st w11 e11 G11 _ _ _ (f69.trans' f911) s11 (fun b hb => ?_) fun w12 h12 => ?_
      · rcases sub11 b hb with hq | hq
        · simp at hq; omega
        · omega
      · (repeat refine gg ?_)
        refine hJ w12 hlt ?_
        rw [hstep]
        refine ⟨⟨fc6.set f (e11, x.sure + tailOf x tails i), ?_⟩, hok2, by omega⟩
        rw [hc1]
        exact h12
  · (repeat refine gg ?_)
    rw [List.take_of_length_le (by omega)] at h6
    exact hR w6 (rf_shut h6)
end
end Go.Proofs.YtofllgbdphakiaaGreat
end

section
namespace Go.Proofs.YtofllgbdphakiaaGreat
open Go.Den Go.Disk
set_option linter.unusedSimpArgs false
set_option linter.unusedVariables false
set_option maxRecDepth 20000
set_option maxHeartbeats 4000000
attribute [local congr] BND_cg COND_cg GEF_cg
attribute [local irreducible] capl slicea load1 loadn iaddr iaddra faddr storev newslice binv lookv mupd mdel mlenv mentry mestore slicev slicev3 slices indexs indexav textv rangev nexts clearv shiftv eqaggv convi buildv pickv lens lenl unv nilchk extractv partn JOIN
section
variable {w0 w : World} {F0 : List Nat} {d : Nat} {s : Dk} {R : Value → World → Prop}
theorem dk_Down (h : At w0 F0 (diskHP d s) w) (hR : R (.bool s.gone) w) : CALL PR F_disk_Disk_Down [ptrTo d] w R := by
  obtain ⟨sv, ms, fb, hs, hm, hf⟩ := dk_open h
  refine C_disk_Disk_Down ?_
  unfold M_disk_Disk_Down ptrTo
  obtain ⟨T, c⟩ := hs.cell (i := 1) rfl
  (repeat refine gg ?_)
  exact hR
theorem dk_Down' {w0 : World} {F0 : List Nat} {d : Nat} {s : Dk} {g : Bool} (h : At w0 F0 (diskHP d s) w) (hg : s.gone = g) (hR : R (.bool g) w) : CALL PR F_disk_Disk_Down [ptrTo d] w R := dk_Down h (hg ▸ hR)
end
end Go.Proofs.YtofllgbdphakiaaGreat
end

section
namespace Go.Proofs.YtofllgbdphakiaaGreat
open Go.Den Go.Disk
set_option linter.unusedSimpArgs false
set_option linter.unusedVariables false
set_option maxRecDepth 20000
set_option maxHeartbeats 4000000
attribute [local congr] BND_cg COND_cg GEF_cg
attribute [local irreducible] capl slicea load1 loadn iaddr iaddra faddr storev newslice binv lookv mupd mdel mlenv mentry mestore slicev slicev3 slices indexs indexav textv rangev nexts clearv shiftv eqaggv convi buildv pickv lens lenl unv nilchk extractv partn JOIN
section
variable {w0 w : World} {F0 : List Nat} {d : Nat} {s : Dk} {R : Value → World → Prop}
theorem dk_Fuse (h : At w0 F0 (diskHP d s) w) (n : Int) (hR : ∀ w', At w0 F0 (diskHP d (fuse s n)) w' → R (.tuple #[]) w') : CALL PR F_disk_Disk_Fuse [ptrTo d, .int .i64 n] w R := by
  obtain ⟨sv, ms, fb, hs, hm, hf⟩ := dk_open h
  refine C_disk_Disk_Fuse ?_
  unfold M_disk_Disk_Fuse ptrTo
  have e : max2v (.int .i64 n) (.int .i64 (-1)) = some (.int .i64 (if n < -1 then -1 else n)) := rfl
  (repeat refine gg ?_)
  refine hs.store (i := 1) rfl ⟨rfl, rfl⟩ (by simp [dkC]) fun w1 h1 f1 => ?_
  exact hR w1 (dk_shut (s := fuse s n) (sv := sv) (ms := ms) (fb := fb) h1)
end
end Go.Proofs.YtofllgbdphakiaaGreat
end

section
namespace Go.Proofs.YtofllgbdphakiaaGreat
open Go.Den Go.Disk
set_option linter.unusedSimpArgs false
set_option linter.unusedVariables false
set_option maxRecDepth 20000
set_option maxHeartbeats 4000000
attribute [local congr] BND_cg COND_cg GEF_cg
attribute [local irreducible] capl slicea load1 loadn iaddr iaddra faddr storev newslice binv lookv mupd mdel mlenv mentry mestore slicev slicev3 slices indexs indexav textv rangev nexts clearv shiftv eqaggv convi buildv pickv lens lenl unv nilchk extractv partn JOIN
section
variable {w : World} {R : Value → World → Prop}
theorem r6_Same {a b : Value} {xs ys : List ByteArray} (ha : Arr encN 1 w a xs) (hb : Arr encN 1 w b ys) (hn : xs.length < 1000000000) (hR : ∀ w', Fr [] w w' → R (.bool (decide (xs = ys))) w') :
    CALL PR F_tumbrelref06_Same [a, b] w R := by
  refine C_tumbrelref06_Same ?_
  unfold M_tumbrelref06_Same
  by_cases hl : xs.length = ys.length
  · (repeat (first | refine BND_step ha.len ?_ | refine BND_step hb.len ?_ | refine gg ?_))
    refine loop_up 0 xs.length (fun i w' => Fr [] w w' ∧ xs.take i = ys.take i) ⟨Fr.refl _ _, rfl⟩ (by omega) ?_
    rintro i w1 - hi ⟨f1, e⟩ J m hJ
    by_cases hlt : i < xs.length
    · have hx := List.getElem?_eq_getElem hlt
      have hy := List.getElem?_eq_getElem (l := ys) (i := i) (by omega)
      obtain ⟨b1, o1, i1, _, _, l1⟩ := (ha.fr f1 (by simp)).spot hx rfl .i64
      obtain ⟨b2, o2, i2, _, _, l2⟩ := (hb.fr f1 (by simp)).spot hy rfl .i64
      (repeat (first | refine BND_step ha.len ?_ | refine BND_step (l1 (w' := w1.drew) rfl (j := 0) rfl) ?_ | refine BND_step (l2 (w' := w1.drew) rfl (j := 0) rfl) ?_ | refine gg ?_))
      by_cases he : xs[i] = ys[i]
      · (repeat refine gg ?_)
        refine hJ _ hlt ⟨f1.trans' (Fr.drew _ _), ?_⟩
        rw [List.take_add_one, List.take_add_one, hx, hy, e, he]
      · (repeat refine gg ?_)
        have := hR _ (f1.trans' (Fr.drew _ _))
        rwa [decide_eq_false (fun h => he (by subst h; rfl))] at this
    · (repeat (first | refine BND_step ha.len ?_ | refine gg ?_))
      have := hR _ f1
      rw [List.take_of_length_le (by omega), List.take_of_length_le (by omega)] at e
      rwa [decide_eq_true e] at this
  · (repeat (first | refine BND_step ha.len ?_ | refine BND_step hb.len ?_ | refine gg ?_))
    have := hR _ (Fr.refl _ _)
    rwa [decide_eq_false (fun h => hl (by rw [h]))] at this
end
end Go.Proofs.YtofllgbdphakiaaGreat
end

section
namespace Go.Proofs.YtofllgbdphakiaaGreat
open Go.Den Go.Disk Go.Vint Go.Crc Go.Frame Go.Rec Go.Root
theorem nil_nilT : binv .ptr .eql (.pointer none) (.pointer none) = some (.bool true) := rfl
theorem ptr_nilT {d : Nat} : binv .ptr .eql (ptrTo d) (.pointer none) = some (.bool false) := rfl
structure AcW (x : FAc) : Prop where
  tails : x.2.1.length * 8 ≤ 140737488351232
  bytes : x.2.2.length ≤ 140737488351232
  name : x.1.nm.size ≤ 140737488351232
theorem join_v2t {f : (Value → Value → World → Prop) → Prop} {k : Value → Value → World → Prop} (Q : Value → Value → World → Prop) (h : ∀ K, (∀ a b w', Q a b w' → K a b w') → f K) (hk : ∀ a b w', Q a b w' → k a b w') : JOIN f k := h k hk
theorem loadn_ac {w : World} {b : Nat} {a : Ac} {T : Nat} {f : Nat × Nat} (h : blk w b = some (.cells (encAc a).toArray T f)) : loadn 5 w (.pointer (some ⟨b, 2, none⟩)) = some (.agg (encT a.rt).toArray) := by
  rw [loadn_blk h (by simp [encAc])]; rfl
section
variable {w : World} {b : Nat} {x : FAc} {t : Rt}
theorem ac_all (h : ∃ T, blk w b = some (.cells (encAc x.1).toArray T (0, 0))) : loadn 10 w (.pointer (some ⟨b, 0, none⟩)) = some (.agg (encAc x.1).toArray) := by
  obtain ⟨T, c⟩ := h
  exact loadn_all' c (encAc_len _)
theorem ac_root (h : ∃ T, blk w b = some (.cells (encAc x.1).toArray T (0, 0))) : loadn 5 w (.pointer (some ⟨b, 2, none⟩)) = some (.agg (encT x.1.rt).toArray) := by
  obtain ⟨T, c⟩ := h
  exact loadn_ac c
theorem ac_n (h : ∃ T, blk w b = some (.cells (encAc x.1).toArray T (0, 0))) : load1 w (.pointer (some ⟨b, 1, none⟩)) = some (.int .i64 x.1.n) := by
  obtain ⟨T, c⟩ := h
  exact load1_at c rfl
theorem ac_tails (h : ∃ T, blk w b = some (.cells (encAc x.1).toArray T (0, 0))) : load1 w (.pointer (some ⟨b, 7, none⟩)) = some x.1.tv := by
  obtain ⟨T, c⟩ := h
  exact load1_at c rfl
theorem ac_bytes (h : ∃ T, blk w b = some (.cells (encAc x.1).toArray T (0, 0))) : load1 w (.pointer (some ⟨b, 9, none⟩)) = some x.1.bv := by
  obtain ⟨T, c⟩ := h
  exact load1_at c rfl
theorem rt_all (h : ∃ T, blk w b = some (.cells (encT t).toArray T (0, 0))) : loadn 5 w (.pointer (some ⟨b, 0, none⟩)) = some (.agg (encT t).toArray) := by
  obtain ⟨T, c⟩ := h
  exact loadn_all' c (encT_len _)
end
/-- all but the things ahead: they are worked upon one by one. -/
theorem At.zoomS {w0 w w' : World} {F0 : List Nat} {ps : List HP} (h : At w0 F0 (stars ps) w) (f : Fr [] w w') (i : Nat) {P : HP} (hi : ps[i]? = some P) : ∃ A, At w' A P w' ∧ (∀ b ∈ A, b ∈ F0 ∨ hsz w0 ≤ b) ∧ ∀ w2 P', At w' A P' w2 → At w0 F0 (stars (ps.set i P')) w2 := by
  obtain ⟨A, z, _, zA, back⟩ := At.zoom3 h f i hi
  exact ⟨A, z, zA, back⟩
set_option linter.unusedSimpArgs false
set_option linter.unusedVariables false
set_option maxRecDepth 20000
set_option maxHeartbeats 4000000
attribute [local congr] BND_cg COND_cg GEF_cg
attribute [local irreducible] capl slicea load1 loadn iaddr iaddra faddr storev newslice binv lookv mupd mdel mlenv mentry mestore slicev slicev3 slices indexs indexav textv rangev nexts clearv shiftv eqaggv convi buildv pickv lens lenl unv nilchk extractv partn JOIN
section
variable {w : World} {R : Value → World → Prop}
theorem rt_own (r : Rt) (hR : ∀ w', Fr [] w w' → R (.agg (encT r).toArray) w') : CALL PR F_tumbrellaw16_own [.agg (encT r).toArray] w R := by
  refine C_tumbrellaw16_own ?_
  unfold M_tumbrellaw16_own
  refine NEW_intro fun w1 b1 f1 z1 => NEW_intro fun w2 b2 f2 z2 => ?_
  replace b1 : blk w1 (hsz w) = some (.cells (encT r).toArray 35 (0, 0)) := b1
  have b12 := f2.some (by simp) b1
  have el : loadn 3 w2 (.pointer (some ⟨hsz w, 0 + 1, none⟩)) = some (.agg [Value.int .i64 r.lanes, .int .i64 r.pay, .int .i64 r.del].toArray) := by
    rw [loadn_blk b12 (by simp [encT])]; rfl
  (repeat (first | refine gg ?_ | (apply BND_build (encT r); exact rfl)))
  refine put_step (n := 5) (vs := encT r) b2 rfl rfl (encT_one _) (by simp [encT]) fun w3 b3 f3 _ => ?_
  (repeat (first | refine BND_step (loadn_all' b3 rfl) ?_ | refine gg ?_))
  exact hR w3 ((f1.trans' f2).trans f3 fun b hb => .inr (by have := f1.grow; simp at hb; omega))
theorem rt_named (x : FAc) (hR : ∀ w', Fr [] w w' → R (.string (nmOf x)) w') : CALL PR F_tumbrellaw16_named [.agg (encAc x.1).toArray] w R := by
  refine C_tumbrellaw16_named ?_
  unfold M_tumbrellaw16_named
  refine NEW_intro fun w1 b1 f1 z1 => ?_
  replace b1 : blk w1 (hsz w) = some (.cells (encAc x.1).toArray 39 (0, 0)) := b1
  have hR' := hR w1 f1
  unfold nmOf at hR'
  by_cases h : x.1.nm = (⟨#[]⟩ : ByteArray)
  · rw [if_pos h] at hR'
    (repeat refine gg ?_)
    exact hR'
  · rw [if_neg h] at hR'
    (repeat refine gg ?_)
    exact hR'
theorem rt_Does (room : Int) {lv : Value} {xs : List FAc} (ha : ActsT w lv xs) (hw : ∀ x ∈ xs, AcW x) (hR : ∀ w', Fr [] w w' → R (.bool true) w') : CALL PR F_tumbrellaw16_RootDoes [.int .i64 room, lv] w R := by
  refine C_tumbrellaw16_RootDoes ?_
  unfold M_tumbrellaw16_RootDoes
  refine rt_awake fun w1 f1 => ?_
  (repeat refine gg ?_)
  refine dk_New room (fun hno => ?_) fun hroom w3 d h3 => ?_
  · (repeat refine gg ?_)
    refine rf_New room (fun _ => ?_) fun hroom _ _ _ => by omega
    have nn := nil_nilT
    (repeat refine gg ?_)
    exact hR _ f1
  (repeat refine gg ?_)
  refine rf_New room (fun hno => by omega) fun _ w4 r h4 => ?_
  have n1 := ptr_nilT (d := d)
  have n2 := ptr_nilT (d := r)
  have hA : At w1 [] (stars [rfHP r (empty room), diskHP d (empty room)]) w4 := by
    obtain ⟨F, g1, g2, g3⟩ := h4
    exact (At.wrap h3).add g3 g1 (fun b hb => by have := g2 b hb; simpa using this)
  have hA4 := At.base f1 hA
  have hl := ha.arr.len
  rw [List.length_map] at hl
  by_cases h40 : (40 : Int) < (xs.length : Int)
  · (repeat refine gg ?_)
    exact hR _ hA4.frame
  (repeat refine gg ?_)
  have ie := inv_empty hroom
  refine loop_up 0 xs.length (fun i w' => ∃ s, At w [] (stars [rfHP r s, diskHP d s]) w' ∧ Inv s ∧ s.dirs.length ≤ 6 * i + 1 ∧ s.files.length ≤ 6 * i + 1) ⟨empty room, hA4, ie, by simp [empty], by simp [empty]⟩ (by omega) ?_
  clear hA hA4 h3 h4
  rintro i w4 - hi ⟨s, h5, inv, hd1, hd2⟩ J m hJ
  by_cases hlt : i < xs.length
  · have hx := List.getElem?_eq_getElem hlt
    have hmem := List.getElem_mem hlt
    generalize xs[i] = x at hx hmem
    have hx' : (xs.map (·.1))[i]? = some x.1 := by rw [List.getElem?_map, hx]; rfl
    obtain ⟨kt, kb⟩ := ha.ins x hmem
    obtain ⟨kn, ks⟩ := ha.num x hmem
    obtain ⟨u1, u2, u3⟩ := hw x hmem
    obtain ⟨bb, oo, ia, ln, _, _⟩ := (ha.fr h5.frame).arr.spot hx' rfl .i64
    (repeat refine gg ?_)
    refine box_step (n := 10) (zs := [_, _, _, _, _, _, _, _, _, _]) (vs := encAc x.1) rfl rfl (encAc_one ha hmem) (by simp [encAc]) fun w6 b6 f6 z6 => ?_
    have h6 := h5.add f6 (P := pts (hsz w4) (encAc x.1)) (A := [hsz w4]) ⟨⟨_, b6⟩, rfl⟩ (by simp)
    have l1 := (kt.fr h6.frame (by simp)).len
    have l2 := (kb.fr h6.frame (by simp)).len
    have e1 : binv .int .add (.int .i64 (x.2.1.length : Int)) (.int .i64 (x.1.nm.size : Int)) = some (.int .i64 ((x.2.1.length + x.1.nm.size : Nat) : Int)) := addn_ (by omega)
    have e2 : binv .int .add (.int .i64 ((x.2.1.length + x.1.nm.size : Nat) : Int)) (.int .i64 (x.2.2.length : Int)) = some (.int .i64 ((x.2.1.length + x.1.nm.size + x.2.2.length : Nat) : Int)) := addn_ (by omega)
    by_cases q300 : (300 : Int) < ((x.2.1.length + x.1.nm.size + x.2.2.length : Nat) : Int)
    · (repeat refine gg ?_)
      exact hR _ h6.frame
    (repeat (first | refine gg ?_ | (apply BND_build (encT zeroT); exact rfl)))
    refine NEW_intro fun w7 b7 f7 z7 => NEW_intro fun w8 b8 f8 z8 => ?_
    have h7 := h6.add f7 (P := pts (hsz w6) (encT zeroT)) (A := [hsz w6]) ⟨⟨_, b7⟩, rfl⟩ (by simp)
    have h8 := h7.add f8 (P := pts (hsz w7) (encT zeroT)) (A := [hsz w7]) ⟨⟨_, b8⟩, rfl⟩ (by simp)
    refine h8.put (i := 1) rfl (encT_len _) (encT_len zeroT) (encT_one _) (by simp [encT]) fun w9 h9 _ => ?_
    refine h9.put (i := 0) rfl (encT_len _) (encT_len zeroT) (encT_one _) (by simp [encT]) fun w10 h10 _ => ?_
    replace h10 : At w [] (stars [pts (hsz w7) (encT zeroT), pts (hsz w6) (encT zeroT), pts (hsz w4) (encAc x.1), rfHP r s, diskHP d s]) w10 := h10
    clear h6 h7 h8 h9
    obtain ⟨inv', m1, m2⟩ := near_actT inv x kn
    obtain ⟨Q, hQ⟩ : ∃ Q : Value → Value → World → Prop, Q = fun a b w' => a = .int .i64 (actT s x).2.2 ∧ b = .int .i64 (actT s x).2.2 ∧ At w [] (stars [pts (hsz w7) (encT (actT s x).2.1), pts (hsz w6) (encT (actT s x).2.1), pts (hsz w4) (encAc x.1), rfHP r (actT s x).1, diskHP d (actT s x).1]) w' := ⟨_, rfl⟩
    have mk : ∀ w', At w [] (stars [pts (hsz w7) (encT (actT s x).2.1), pts (hsz w6) (encT (actT s x).2.1), pts (hsz w4) (encAc x.1), rfHP r (actT s x).1, diskHP d (actT s x).1]) w' → Q (.int .i64 (actT s x).2.2) (.int .i64 (actT s x).2.2) w' := fun w' hw' => by rw [hQ]; exact ⟨rfl, rfl, hw'⟩
    have hdn : load1 w10 (.pointer (some ⟨hsz w4, 0, none⟩)) = some (.int .i64 x.1.dn) := by
      obtain ⟨T, c⟩ := h10.cell (i := 2) rfl
      exact load1_at c rfl
    (repeat refine gg ?_)
    refine join_v2t Q (fun K hK => ?_) ?_
    · by_cases q0 : x.1.dn = 0
      · simp only [actT, if_pos q0] at mk
        have hd := h10.fr0 (Fr.drew [] w10)
        (repeat refine gg ?_)
        refine ⟨fun _ w' => ∃ T, blk w' (hsz w4) = some (.cells (encAc x.1).toArray T (0, 0)), hd.cell (i := 2) rfl, ?_⟩
        (repeat (first | refine BND_step (ac_root (hd.cell (i := 2) rfl)) ?_ | refine gg ?_ | refine FLT.mk _ (fun _ hw_ => (ac_root hw_)) ?_))
        obtain ⟨A, z, zA, back⟩ := At.zoomS hd (Fr.refl _ _) 4 rfl
        refine rt_Write z inv (by omega) (by omega) x.1.rt fun w22 z22 => ?_
        have h22 := back _ _ z22
        refine ⟨h22.cell (i := 2) rfl, ?_⟩
        refine rt_own x.1.rt fun w23 f23 => ?_
        have h23 := h22.fr0 f23
        obtain ⟨A3, z3, zA3, back3⟩ := At.zoomS h23 (Fr.refl _ _) 3 rfl
        refine r16_Write z3 inv (by omega) (by omega) x.1.rt fun w24 z24 => ?_
        exact hK _ _ _ (mk _ (back3 _ _ z24))
      (repeat refine gg ?_)
      refine join_v2t Q (fun K1 hK1 => ?_) hK
      by_cases q1 : x.1.dn = 1
      · simp only [actT, if_neg q0, if_pos q1] at mk
        (repeat refine gg ?_)
        obtain ⟨A, z, zA, back⟩ := At.zoomS h10 (Fr.refl _ _) 4 rfl
        refine rt_Read z inv (by omega) fun w26 f26 => ?_
        have h26 := h10.fr0 f26
        (repeat refine gg ?_)
        refine h26.put (i := 1) rfl (encT_len _) (encT_len _) (encT_one _) (by simp [encT]) fun w27 h27 _ => ?_
        obtain ⟨A3, z3, zA3, back3⟩ := At.zoomS h27 (Fr.refl _ _) 3 rfl
        refine r16_Read z3 inv (by omega) fun w28 _ f28 => ?_
        have h28 := h27.fr0 f28
        (repeat refine gg ?_)
        refine h28.put (i := 0) rfl (encT_len _) (encT_len _) (encT_one _) (by simp [encT]) fun w29 h29 _ => ?_
        exact hK1 _ _ _ (mk _ h29)
      (repeat refine gg ?_)
      refine join_v2t Q (fun K2 hK2 => ?_) hK1
      obtain ⟨A, z, zA, back⟩ := At.zoomS h10 (Fr.refl _ _) 4 rfl
      by_cases q2 : x.1.dn = 2
      · simp only [actT, if_neg q0, if_neg q1, if_pos q2] at mk
        (repeat (first | refine BND_step (ac_n (h10.cell (i := 2) rfl)) ?_ | refine gg ?_))
        refine dk_Fuse z x.1.n fun w31 z31 => ?_
        have h31 := back _ _ z31
        (repeat (first | refine BND_step (ac_n (h31.cell (i := 2) rfl)) ?_ | refine gg ?_))
        obtain ⟨A3, z3, zA3, back3⟩ := At.zoomS h31 (Fr.refl _ _) 3 rfl
        refine rf_Fuse z3 x.1.n fun w32 z32 => ?_
        exact hK2 _ _ _ (mk _ (back3 _ _ z32))
      (repeat refine gg ?_)
      refine join_v2t Q (fun K3 hK3 => ?_) hK2
      by_cases q3 : x.1.dn = 3
      · simp only [actT, if_neg q0, if_neg q1, if_neg q2, if_pos q3] at mk
        (repeat (first | refine BND_step (ac_n (h10.cell (i := 2) rfl)) ?_ | refine BND_step (ac_tails (h10.cell (i := 2) rfl)) ?_ | refine gg ?_))
        refine dk_Crash z inv.wf (by omega) x.1.n (tails := x.2.1) (fun w' fr => kt.fr (h10.frame.trans fr zA) (by simp)) fun w34 z34 => ?_
        have h34 := back _ _ z34
        (repeat (first | refine BND_step (ac_n (h34.cell (i := 2) rfl)) ?_ | refine BND_step (ac_tails (h34.cell (i := 2) rfl)) ?_ | refine gg ?_))
        obtain ⟨A3, z3, zA3, back3⟩ := At.zoomS h34 (Fr.refl _ _) 3 rfl
        refine rf_Crash z3 inv.wf (by omega) x.1.n (tails := x.2.1) (fun w' fr => kt.fr (h34.frame.trans fr zA3) (by simp)) fun w35 z35 => ?_
        exact hK3 _ _ _ (mk _ (back3 _ _ z35))
      (repeat refine gg ?_)
      refine join_v2t Q (fun K4 hK4 => ?_) hK3
      by_cases q4 : x.1.dn = 4
      · simp only [actT, if_neg q0, if_neg q1, if_neg q2, if_neg q3, if_pos q4] at mk
        (repeat (first | refine BND_step (ac_all (h10.cell (i := 2) rfl)) ?_ | refine gg ?_))
        refine rt_named x fun w37 f37 => ?_
        have h37 := h10.fr0 f37
        obtain ⟨A7, z7, zA7, back7⟩ := At.zoomS h37 (Fr.refl _ _) 4 rfl
        have hns : (nmOf x).size ≤ 9223372036854775807 := by
          unfold nmOf
          split
          · decide
          · exact ks
        obtain ⟨i1, c1, c2⟩ := near_create inv (nmOf x)
        (repeat refine gg ?_)
        refine dk_Create z7 inv.wf (by omega) (nmOf x) fun w38 z38 => ?_
        have h38 := back7 _ _ z38
        (repeat (first | refine BND_step (ac_all (h38.cell (i := 2) rfl)) ?_ | refine gg ?_))
        refine rt_named x fun w39 f39 => ?_
        have h39 := h38.fr0 f39
        obtain ⟨A9, z9, zA9, back9⟩ := At.zoomS h39 (Fr.refl _ _) 3 rfl
        (repeat refine gg ?_)
        refine rf_Create z9 inv.wf (by omega) (by omega) (nmOf x) hns fun w40 z40 => ?_
        have h40' := back9 _ _ z40
        have hd := h40'.fr0 (Fr.drew [] w40)
        have cx := hd.cell (i := 2) rfl
        (repeat refine gg ?_)
        refine ⟨fun _ w' => ∃ T, blk w' (hsz w4) = some (.cells (encAc x.1).toArray T (0, 0)), cx, cx, cx, ?_⟩
        (repeat (first | refine BND_step (ac_all cx) ?_ | refine gg ?_ | refine FLT.mk _ (fun _ hw_ => (ac_bytes hw_)) ?_ | refine FLT.mk _ (fun _ hw_ => (ac_all hw_)) ?_ | refine FLT.mk _ (fun _ hw_ => (ac_bytes hw_)) ?_))
        refine rt_named x fun w41 f41 => ?_
        have h41 := hd.fr0 f41
        have cx1 := h41.cell (i := 2) rfl
        refine ⟨cx1, cx1, cx1, ?_⟩
        obtain ⟨A1, y1, yA1, back1⟩ := At.zoomS h41 (Fr.refl _ _) 4 rfl
        refine dk_Append y1 i1.wf (by omega) (by omega) (nmOf x) (bs := x.2.2) (by omega) (kb.fr h41.frame (by simp)).len (fun w' fr => (kb.fr (h41.frame.trans fr yA1) (by simp)).src encB_len (by omega)) fun w42 z42 => ?_
        have h42 := back1 _ _ z42
        have cx2 := h42.cell (i := 2) rfl
        refine ⟨cx2, cx2, ?_⟩
        refine rt_named x fun w43 f43 => ?_
        have h43 := h42.fr0 f43
        refine ⟨h43.cell (i := 2) rfl, ?_⟩
        obtain ⟨A3, y3, yA3, back3⟩ := At.zoomS h43 (Fr.refl _ _) 3 rfl
        refine rf_Append y3 i1.wf (by omega) (by omega) (nmOf x) (bs := x.2.2) (by omega) (kb.fr h43.frame (by simp)).len (fun w' fr => (kb.fr (h43.frame.trans fr yA3) (by simp)).src encB_len (by omega)) fun w44 z44 => ?_
        exact hK4 _ _ _ (mk _ (back3 _ _ z44))
      · simp only [actT, if_neg q0, if_neg q1, if_neg q2, if_neg q3, if_neg q4] at mk
        obtain ⟨i1, c1, c2⟩ := near_sync inv nf
        (repeat refine gg ?_)
        refine dk_Sync z inv.wf (by omega) nf fun w45 z45 => ?_
        have h45 := back _ _ z45
        obtain ⟨A5, y5, yA5, back5⟩ := At.zoomS h45 (Fr.refl _ _) 3 rfl
        (repeat refine gg ?_)
        refine rf_Sync y5 inv.wf (by omega) nf fun w46 z46 => ?_
        have h46 := back5 _ _ z46
        obtain ⟨A6, y6, yA6, back6⟩ := At.zoomS h46 (Fr.refl _ _) 4 rfl
        (repeat refine gg ?_)
        refine dk_DirSync y6 i1.wf (by omega) fun w47 z47 => ?_
        have h47 := back6 _ _ z47
        obtain ⟨A7, y7, yA7, back7⟩ := At.zoomS h47 (Fr.refl _ _) 3 rfl
        (repeat refine gg ?_)
        refine rf_DirSync y7 i1.wf (by omega) fun w48 z48 => ?_
        exact hK4 _ _ _ (mk _ (back7 _ _ z48))
    rw [hQ]
    rintro _ _ w11 ⟨rfl, rfl, h11⟩
    clear mk hQ h10
    obtain ⟨⟨s', t, e⟩, hact⟩ : ∃ y, actT s x = y := ⟨_, rfl⟩
    simp only [hact] at h11 inv' m1 m2 ⊢
    have hwf := inv'.wf
    have h60 := hwf.many _ (now_mem hwf)
    have hd := h11.fr0 (Fr.drew [] w11)
    obtain ⟨Az, hz, _⟩ := At.zoom hd 3 rfl
    obtain ⟨fv, dv, fc, es, hs⟩ := rf_open hz
    obtain ⟨T2, c⟩ := hs.cell (i := 0) rfl
    unfold rfC at c
    obtain ⟨S, hS⟩ : ∃ S : World → Prop, S = fun w' => (∃ T, blk w' (hsz w7) = some (.cells (encT t).toArray T (0, 0))) ∧ (∃ T, blk w' (hsz w4) = some (.cells (encAc x.1).toArray T (0, 0))) ∧ blk w' r = some (.cells [.int .i64 s'.room, fv, dv, .int .i64 s'.burn, .bool s'.gone].toArray T2 (0, 0)) := ⟨_, rfl⟩
    have S1 : ∀ {w'}, S w' → loadn 5 w' (.pointer (some ⟨hsz w7, 0, none⟩)) = some (.agg (encT t).toArray) := fun h => by rw [hS] at h; exact rt_all h.1
    have S2 : ∀ {w'}, S w' → loadn 5 w' (.pointer (some ⟨hsz w4, 2, none⟩)) = some (.agg (encT x.1.rt).toArray) := fun h => by rw [hS] at h; exact ac_root h.2.1
    have S3 : ∀ {w'}, S w' → load1 w' (.pointer (some ⟨r, 4, none⟩)) = some (.bool s'.gone) := fun h => by rw [hS] at h; exact load1_at h.2.2 rfl
    have Sf : ∀ {w1 w2}, S w1 → Fr [] w1 w2 → S w2 := fun h f => by
      rw [hS] at h ⊢
      obtain ⟨⟨T, a⟩, ⟨T', b⟩, c⟩ := h
      exact ⟨⟨T, f.some (by simp) a⟩, ⟨T', f.some (by simp) b⟩, f.some (by simp) c⟩
    have s0 : S w11.drew := by
      rw [hS]
      exact ⟨hd.cell (i := 0) rfl, hd.cell (i := 2) rfl, c⟩
    clear hS
    refine ⟨fun _ w' => S w', s0, s0, s0, ?_⟩
    (repeat (first | refine BND_step (rt_all (hd.cell (i := 1) rfl)) ?_ | refine gg ?_ | refine FLT.mk _ (fun _ hw_ => (S1 hw_)) ?_))
    refine rt_own t fun w12 f12 => ?_
    have s12 := Sf s0 f12
    have h12 := hd.fr0 f12
    refine ⟨s12, s12, s12, ?_⟩
    have en := neT t t
    rw [decide_eq_true rfl] at en
    (repeat (first | refine BND_step (S2 s12) ?_ | refine gg ?_ | refine FLT.mk _ (fun _ hw_ => (S2 hw_)) ?_))
    refine rt_Right x.1.rt fun w13 f13 => ?_
    have s13 := Sf s12 f13
    refine ⟨s13, s13, ?_⟩
    (repeat refine gg ?_)
    refine rt_own x.1.rt fun w14 f14 => ?_
    have s14 := Sf s13 f14
    refine ⟨s14, ?_⟩
    (repeat refine gg ?_)
    refine r16_Right x.1.rt fun w15 f15 => ?_
    have s15 := Sf s14 f15
    refine ⟨s15, ?_⟩
    have h15 := ((h12.fr0 f13).fr0 f14).fr0 f15
    have er : binv .bool .neq (.bool (rightT x.1.rt)) (.bool (rightT x.1.rt)) = some (.bool false) := (binv_neb _ _).trans (by simp)
    (repeat refine gg ?_)
    obtain ⟨A15, z15, _⟩ := At.zoom h15 4 rfl
    refine dk_Names z15 hwf (by omega) fun w16 v16 G16 _ s16 g16 f16 => ?_
    have S16 := Sf s15 f16
    refine ⟨S16, ?_⟩
    have h16 := h15.fr0 f16
    (repeat refine gg ?_)
    obtain ⟨A16, z16, _⟩ := At.zoom h16 3 rfl
    refine rf_Names z16 hwf (by omega) fun w17 v17 G17 _ s17 g17 f17 => ?_
    have S17 := Sf S16 f17
    refine ⟨S17, ?_⟩
    have h17 := h16.fr0 f17
    (repeat refine gg ?_)
    refine r6_Same (s16.fr f17 (by simp)).arr s17.arr (by simp; omega) fun w18 f18 => ?_
    rw [decide_eq_true rfl]
    have S18 := Sf S17 f18
    refine ⟨S18, ?_⟩
    have h18 := h17.fr0 f18
    (repeat refine gg ?_)
    obtain ⟨A18, z18, _⟩ := At.zoom h18 4 rfl
    refine dk_Held z18 hwf (by omega) (by omega) fun w19 f19 => ?_
    have S19 := Sf S18 f19
    refine ⟨S19, ?_⟩
    have h19 := h18.fr0 f19
    (repeat refine gg ?_)
    obtain ⟨A19, z19, _⟩ := At.zoom h19 3 rfl
    refine rf_Held z19 hwf (by omega) (by omega) fun w20 f20 => ?_
    have S20 := Sf S19 f20
    refine ⟨S20, ?_⟩
    have h20 := h19.fr0 f20
    unfold ptrTo
    (repeat (first | refine gg ?_ | refine FLT.mk _ (fun _ hw_ => (S3 hw_)) ?_))
    obtain ⟨A20, z20, _⟩ := At.zoom h20 4 rfl
    refine dk_Down z20 ?_
    refine ⟨S20, ?_⟩
    have eg : binv .bool .neq (.bool s'.gone) (.bool s'.gone) = some (.bool false) := (binv_neb _ _).trans (by simp)
    (repeat refine gg ?_)
    exact hJ _ hlt ⟨s', At.tail (At.tail (At.tail h20)), inv', by omega, by omega⟩
  · (repeat refine gg ?_)
    exact hR _ h5.frame
end
end Go.Proofs.YtofllgbdphakiaaGreat
end

section
namespace Go.Proofs.YtofllgbdphakiaaGreat
open Go.Den Go.Disk Go.Root
open Go.ChangeShapes Go.WideShapes Go.ChangeAt Go.RowKit
set_option linter.unusedVariables false
def encFac (x : FAc) : List Value := encAc x.1
theorem encFac_len (x : FAc) : (encFac x).length = 10 := rfl
def FacOk (w : World) (x : FAc) : Prop := (Arr encI 1 w x.1.tv x.2.1 ∧ Arr encB 1 w x.1.bv x.2.2) ∧ (x.1.tv.oneCell' = true ∧ x.1.bv.oneCell' = true) ∧ x.1.n ≤ 9223372036854775807 ∧ x.1.nm.size ≤ 9223372036854775807
section
variable {H : Type} {enc : TypeId × Value → H} {w : World}
set_option maxRecDepth 100000 in
theorem cfg2_dec (fuel : Nat) (cs : List Value) (y : DataW H × List MemPlace) (h : DataW.trod enc Tryz.prog w 0 (fun _ => true) true fuel 33 cs = some y) : ∃ (a0 : Int) (a1 : Int) (a2 : Int), cs = [.int .i64 a0, .int .i64 a1, .int .i64 a2] ∧ (Lit.int .i64 a0).wf = true ∧ (Lit.int .i64 a1).wf = true ∧ (Lit.int .i64 a2).wf = true := by
  obtain ⟨y0, y1, y2, n, hy, hl, h0, h1, h2⟩ := trodS3 Tryz.underlying33 h
  have hc : Tryz.prog.cellsOf 33 = 3 := by kernel_rfl
  rw [hc] at hl
  have c0 : Tryz.prog.cellsOf 3 = 1 := by kernel_rfl
  match cs, hl with
  | [u0, u1, u2], _ =>
    simp only [c0, List.drop_zero, List.take_succ_cons, List.take_zero, List.drop_succ_cons] at h0 h1 h2
    obtain ⟨a0, e0, _, q0⟩ := DataW.trod_int Tryz.underlying3 h0
    obtain ⟨a1, e1, _, q1⟩ := DataW.trod_int Tryz.underlying3 h1
    obtain ⟨a2, e2, _, q2⟩ := DataW.trod_int Tryz.underlying3 h2
    simp only [List.cons.injEq, and_true] at e0 e1 e2
    subst e0
    subst e1
    subst e2
    exact ⟨a0, a1, a2, rfl, q0, q1, q2⟩
set_option maxRecDepth 100000 in
theorem root2_dec (fuel : Nat) (cs : List Value) (y : DataW H × List MemPlace) (h : DataW.trod enc Tryz.prog w 0 (fun _ => true) true fuel 35 cs = some y) : ∃ (a0 : Int) (a1 : Int) (a2 : Int) (a3 : Int) (a4 : Int), cs = [.int .u64 a0, .int .i64 a1, .int .i64 a2, .int .i64 a3, .int .i64 a4] ∧ (Lit.int .u64 a0).wf = true ∧ (Lit.int .i64 a1).wf = true ∧ (Lit.int .i64 a2).wf = true ∧ (Lit.int .i64 a3).wf = true ∧ (Lit.int .i64 a4).wf = true := by
  obtain ⟨y0, y1, y2, n, hy, hl, h0, h1, h2⟩ := trodS3 Tryz.underlying35 h
  have hc : Tryz.prog.cellsOf 35 = 5 := by kernel_rfl
  rw [hc] at hl
  have c0 : Tryz.prog.cellsOf 31 = 1 := by kernel_rfl
  have c1 : Tryz.prog.cellsOf 33 = 3 := by kernel_rfl
  have c2 : Tryz.prog.cellsOf 3 = 1 := by kernel_rfl
  match cs, hl with
  | [u0, u1, u2, u3, u4], _ =>
    simp only [c0, c1, c2, List.drop_zero, List.take_succ_cons, List.take_zero, List.drop_succ_cons] at h0 h1 h2
    obtain ⟨a0, e0, _, q0⟩ := DataW.trod_int Tryz.underlying31 h0
    obtain ⟨a1, a2, a3, e1, q1_0, q1_1, q1_2⟩ := cfg2_dec _ _ _ h1
    obtain ⟨a4, e2, _, q2⟩ := DataW.trod_int Tryz.underlying3 h2
    simp only [List.cons.injEq, and_true] at e0 e1 e2
    subst e0
    obtain ⟨rfl, rfl, rfl⟩ := e1
    subst e2
    exact ⟨a0, a1, a2, a3, a4, rfl, q0, q1_0, q1_1, q1_2, q2⟩
set_option maxRecDepth 100000 in
theorem ac2_dec (fuel : Nat) (cs : List Value) (y : DataW H × List MemPlace) (h : DataW.trod enc Tryz.prog w 0 (fun _ => true) true fuel 39 cs = some y) : ∃ (a0 : Int) (a1 : Int) (a2 : Int) (a3 : Int) (a4 : Int) (a5 : Int) (a6 : Int) (a7 : Value) (a8 : ByteArray) (a9 : Value), cs = [.int .i64 a0, .int .i64 a1, .int .u64 a2, .int .i64 a3, .int .i64 a4, .int .i64 a5, .int .i64 a6, a7, .string a8, a9] ∧ (Lit.int .i64 a0).wf = true ∧ (Lit.int .i64 a1).wf = true ∧ (Lit.int .u64 a2).wf = true ∧ (Lit.int .i64 a3).wf = true ∧ (Lit.int .i64 a4).wf = true ∧ (Lit.int .i64 a5).wf = true ∧ (Lit.int .i64 a6).wf = true ∧ (Capd a7 ∧ ∃ xs, Arr encI 1 w a7 xs ∧ (∀ x ∈ xs, (fun _ => True) x) ∧ ((y.1.weights Tryz.prog 39).all (· ≤ reachBytes) = true → xs.length * Tryz.prog.bytesOf 3 ≤ reachBytes)) ∧ (a8.size ≤ 9223372036854775807 ∧ ((y.1.weights Tryz.prog 39).all (· ≤ reachBytes) = true → a8.size ≤ reachBytes)) ∧ (Capd a9 ∧ ∃ xs, Arr encB 1 w a9 xs ∧ (∀ x ∈ xs, (fun _ => True) x) ∧ ((y.1.weights Tryz.prog 39).all (· ≤ reachBytes) = true → xs.length * Tryz.prog.bytesOf 5 ≤ reachBytes)) := by
  obtain ⟨y0, y1, y2, y3, y4, y5, n, hy, hl, h0, h1, h2, h3, h4, h5⟩ := trodS6 Tryz.underlying39 h
  have hc : Tryz.prog.cellsOf 39 = 10 := by kernel_rfl
  rw [hc] at hl
  have c0 : Tryz.prog.cellsOf 3 = 1 := by kernel_rfl
  have c1 : Tryz.prog.cellsOf 35 = 5 := by kernel_rfl
  have c2 : Tryz.prog.cellsOf 36 = 1 := by kernel_rfl
  have c3 : Tryz.prog.cellsOf 9 = 1 := by kernel_rfl
  have c4 : Tryz.prog.cellsOf 37 = 1 := by kernel_rfl
  match cs, hl with
  | [u0, u1, u2, u3, u4, u5, u6, u7, u8, u9], _ =>
    simp only [c0, c1, c2, c3, c4, List.drop_zero, List.take_succ_cons, List.take_zero, List.drop_succ_cons] at h0 h1 h2 h3 h4 h5
    have hWs : (y.1.weights Tryz.prog 39).all (· ≤ reachBytes) = true → (y0.1.weights Tryz.prog 3).all (· ≤ reachBytes) = true ∧ (y1.1.weights Tryz.prog 3).all (· ≤ reachBytes) = true ∧ (y2.1.weights Tryz.prog 35).all (· ≤ reachBytes) = true ∧ (y3.1.weights Tryz.prog 36).all (· ≤ reachBytes) = true ∧ (y4.1.weights Tryz.prog 9).all (· ≤ reachBytes) = true ∧ (y5.1.weights Tryz.prog 37).all (· ≤ reachBytes) = true := by
      intro hW
      rw [hy] at hW
      simpa only [DataW.weights, Tryz.underlying39, List.map_cons, List.map_nil, DataW.weightsEach, List.all_append, List.all_nil, Bool.and_eq_true, and_true] using hW
    obtain ⟨a0, e0, _, q0⟩ := DataW.trod_int Tryz.underlying3 h0
    obtain ⟨a1, e1, _, q1⟩ := DataW.trod_int Tryz.underlying3 h1
    obtain ⟨a2, a3, a4, a5, a6, e2, q2_0, q2_1, q2_2, q2_3, q2_4⟩ := root2_dec _ _ _ h2
    obtain ⟨a7, e3, q3⟩ := arr_of_cells (P := Tryz.prog) (encS := encI) (OK := (fun _ => True)) Tryz.underlying36 (show Tryz.prog.cellsOf 3 = 1 by kernel_rfl) (by omega) encI_len (int_dec) h3
    obtain ⟨a8, e4, g4, q4⟩ := DataW.trod_string Tryz.underlying9 h4
    obtain ⟨a9, e5, q5⟩ := arr_of_cells (P := Tryz.prog) (encS := encB) (OK := (fun _ => True)) Tryz.underlying37 (show Tryz.prog.cellsOf 5 = 1 by kernel_rfl) (by omega) encB_len (u8_dec) h5
    simp only [List.cons.injEq, and_true] at e0 e1 e2 e3 e4 e5
    subst e0
    subst e1
    obtain ⟨rfl, rfl, rfl, rfl, rfl⟩ := e2
    subst e3
    subst e4
    subst e5
    exact ⟨a0, a1, a2, a3, a4, a5, a6, u7, a8, u9, rfl, q0, q1, q2_0, q2_1, q2_2, q2_3, q2_4, ⟨q3.1, q3.2.elim fun xs p => ⟨xs, p.1, p.2.1, fun hW => p.2.2 (hWs hW).2.2.2.1⟩⟩, ⟨q4, fun hW => by have hh := (hWs hW).2.2.2.2.1; rw [g4] at hh; simpa [DataW.weights] using hh⟩, ⟨q5.1, q5.2.elim fun xs p => ⟨xs, p.1, p.2.1, fun hW => p.2.2 (hWs hW).2.2.2.2.2⟩⟩⟩
theorem fac_dec (fuel : Nat) (cs : List Value) (y : DataW H × List MemPlace) (h : DataW.trod enc Tryz.prog w 0 (fun _ => true) true fuel 39 cs = some y) : ∃ x : FAc, cs = encFac x ∧ FacOk w x ∧ ((y.1.weights Tryz.prog 39).all (· ≤ reachBytes) = true → AcW x) := by
  obtain ⟨a0, a1, a2, a3, a4, a5, a6, a7, a8, a9, e, q0, q1, q2, _, _, _, _, ⟨⟨a, n, c, rfl, _⟩, t, ht, _, mt⟩, ⟨qs, ms⟩, ⟨⟨a', n', c', rfl, _⟩, b, hb, _, mb⟩⟩ := ac2_dec _ _ _ h
  obtain ⟨g, rfl⟩ := u64_nat q2
  refine ⟨(⟨a0, a1, ⟨g, a3, a4, a5, a6⟩, _, a8, _⟩, t, b), e, ⟨⟨ht, hb⟩, ⟨rfl, rfl⟩, i64_le q1, qs⟩, fun hW => ⟨?_, ?_, ms hW⟩⟩
  · have := mt hW; rwa [show Tryz.prog.bytesOf 3 = 8 by kernel_rfl] at this
  · have := mb hW; rw [show Tryz.prog.bytesOf 5 = 1 by kernel_rfl, Nat.mul_one] at this; exact this
end
theorem actsT_of2 {w : World} {v : Value} {xs : List FAc} (h : Arr encFac 10 w v xs) (hok : ∀ x ∈ xs, FacOk w x ∧ AcW x) : ActsT w v xs ∧ ∀ x ∈ xs, AcW x := by
  refine ⟨⟨?_, fun x hx => (hok x hx).1.1, fun x hx => (hok x hx).1.2.1, fun x hx => (hok x hx).1.2.2⟩, fun x hx => (hok x hx).2⟩
  obtain ⟨a, cap, hv, hh⟩ := h
  refine ⟨a, cap, by rw [List.length_map]; exact hv, ?_⟩
  rcases hh with hh | ⟨b, o, c, T, fz, h1, h2, h3⟩
  · exact .inl (by rw [hh]; rfl)
  · refine .inr ⟨b, o, c, T, fz, h1, h2, fun i y hy => ?_⟩
    rw [List.getElem?_map] at hy
    cases hx : xs[i]? with
    | none => rw [hx] at hy; cases hy
    | some x =>
      rw [hx] at hy
      obtain rfl : x.1 = y := by simpa using hy
      exact h3 i x hx
theorem rt_DoesI {w : World} {R : Value → World → Prop} {room : Int} {v : Value} {xs : List FAc} (h : Arr encFac 10 w v xs) (hok : ∀ x ∈ xs, FacOk w x ∧ AcW x) (hR : ∀ w', Fr [] w w' → R (.bool true) w') :
    CALL PR F_tumbrellaw16_RootDoes [.int .i64 room, v] w R := rt_Does room (actsT_of2 h hok).1 (actsT_of2 h hok).2 hR
end Go.Proofs.YtofllgbdphakiaaGreat
end
