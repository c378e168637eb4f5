/- The document's disk in memory. No condition. The document's disk: directories. No condition. The document's disk: Create, Rename, Delete, DirSync. No condition but sizes. The document's disk: files. No condition but sizes. The document's disk: Held, Append, Cut. No condition but sizes. The document's disk: Crash; its acts. No condition but sizes. -/
import Derived.Test.YtmefbneoljpbgaaGreatDoorGe
import Derived.Test.YtmefbneoljpbgaaGreatDoorGb
import Derived.Test.YtmefbneoljpbgaaGreatDoorMb
section
namespace Go.Proofs.YtmefbneoljpbgaaGreatDoor
open Go.Den Go.Disk
def encE (x : ByteArray × Nat) : List Value := [.string x.1, .int .i64 (x.2 : Int)]
theorem encE_len (x : ByteArray × Nat) : (encE x).length = 2 := rfl
theorem encE_one (x : ByteArray × Nat) : ∀ u ∈ encE x, u.oneCell' = true := by intro u hu; simp [encE] at hu; rcases hu with rfl | rfl <;> rfl
def encG (x : SV × Nat) : List Value := [x.1.v, .int .i64 (x.2 : Int)]
theorem encG_len (x : SV × Nat) : (encG x).length = 2 := rfl
theorem encG_one (x : SV × Nat) : ∀ u ∈ encG x, u.oneCell' = true := by intro u hu; simp [encG] at hu; rcases hu with rfl | rfl <;> rfl
def Ents (w : World) (es : List SV) (ds : List Dir) (F : List Nat) : Prop := es.length = ds.length ∧ ∀ (i : Nat) (l : Dir), ds[i]? = some l → ∃ (e : SV) (G : List Nat), es[i]? = some e ∧ Slc encE 2 w e.v l G ∧ ∀ b ∈ G, b ∈ F
def Fils (w : World) (fc : List (SV × Nat)) (fs : List Fl) (F : List Nat) : Prop := fc.length = fs.length ∧ ∀ (i : Nat) (x : Fl), fs[i]? = some x → ∃ (v : SV) (G : List Nat), fc[i]? = some (v, x.sure) ∧ Slc encB 1 w v.v x.b G ∧ ∀ b ∈ G, b ∈ F
theorem Ents.st {w w' : World} {es : List SV} {ds : List Dir} {F : List Nat} (h : Ents w es ds F) (hk : ∀ b ∈ F, blk w' b = blk w b) : Ents w' es ds F :=
  ⟨h.1, fun i l hl => by obtain ⟨e, G, h1, h2, h3⟩ := h.2 i l hl; exact ⟨e, G, h1, h2.congr fun b hb => hk b (h3 b hb), h3⟩⟩
theorem Fils.st {w w' : World} {fc : List (SV × Nat)} {fs : List Fl} {F : List Nat} (h : Fils w fc fs F) (hk : ∀ b ∈ F, blk w' b = blk w b) : Fils w' fc fs F :=
  ⟨h.1, fun i l hl => by obtain ⟨e, G, h1, h2, h3⟩ := h.2 i l hl; exact ⟨e, G, h1, h2.congr fun b hb => hk b (h3 b hb), h3⟩⟩
theorem Ents.sub {w : World} {es : List SV} {ds : List Dir} {F F' : List Nat} (h : Ents w es ds F) (hk : ∀ b ∈ F, b ∈ F') : Ents w es ds F' :=
  ⟨h.1, fun i l hl => by obtain ⟨e, G, h1, h2, h3⟩ := h.2 i l hl; exact ⟨e, G, h1, h2, fun b hb => hk b (h3 b hb)⟩⟩
theorem Fils.sub {w : World} {fc : List (SV × Nat)} {fs : List Fl} {F F' : List Nat} (h : Fils w fc fs F) (hk : ∀ b ∈ F, b ∈ F') : Fils w fc fs F' :=
  ⟨h.1, fun i l hl => by obtain ⟨e, G, h1, h2, h3⟩ := h.2 i l hl; exact ⟨e, G, h1, h2, fun b hb => hk b (h3 b hb)⟩⟩
theorem Ents.snoc {w : World} {es : List SV} {ds : List Dir} {F G : List Nat} {e : SV} {l : Dir} (h : Ents w es ds F) (s : Slc encE 2 w e.v l G) (hG : ∀ b ∈ G, b ∈ F) : Ents w (es ++ [e]) (ds ++ [l]) F := by
  obtain ⟨h1, h2⟩ := h
  refine ⟨by simp [h1], fun i m hm => ?_⟩
  by_cases hi : i < ds.length
  · rw [List.getElem?_append_left hi] at hm
    obtain ⟨e', G', h3, h4, h5⟩ := h2 i m hm
    exact ⟨e', G', by rw [List.getElem?_append_left (by omega)]; exact h3, h4, h5⟩
  · have : i = ds.length := by have := (List.getElem?_eq_some_iff.1 hm).1; simp at this; omega
    subst this
    simp at hm; subst hm
    exact ⟨e, G, by rw [List.getElem?_append_right (by omega)]; simp [h1], s, hG⟩
theorem Ents.one {w : World} {F G : List Nat} {e : SV} {l : Dir} (s : Slc encE 2 w e.v l G) (hG : ∀ b ∈ G, b ∈ F) : Ents w [e] [l] F := by
  refine ⟨rfl, fun i m hm => ?_⟩
  cases i with
  | zero => simp at hm; subst hm; exact ⟨e, G, rfl, s, hG⟩
  | succ i => simp at hm
theorem Fils.snoc {w : World} {fc : List (SV × Nat)} {fs : List Fl} {F G : List Nat} {v : SV} {x : Fl} (h : Fils w fc fs F) (s : Slc encB 1 w v.v x.b G) (hG : ∀ b ∈ G, b ∈ F) : Fils w (fc ++ [(v, x.sure)]) (fs ++ [x]) F := by
  obtain ⟨h1, h2⟩ := h
  refine ⟨by simp [h1], fun i m hm => ?_⟩
  by_cases hi : i < fs.length
  · rw [List.getElem?_append_left hi] at hm
    obtain ⟨e', G', h3, h4, h5⟩ := h2 i m hm
    exact ⟨e', G', by rw [List.getElem?_append_left (by omega)]; exact h3, h4, h5⟩
  · have : i = fs.length := by have := (List.getElem?_eq_some_iff.1 hm).1; simp at this; omega
    subst this
    simp at hm; subst hm
    exact ⟨v, G, by rw [List.getElem?_append_right (by omega)]; simp [h1], s, hG⟩
theorem Fils.set {w : World} {fc : List (SV × Nat)} {fs : List Fl} {F G : List Nat} {v : SV} {x : Fl} {f : Nat} (h : Fils w fc fs F) (s : Slc encB 1 w v.v x.b G) (hG : ∀ b ∈ G, b ∈ F) : Fils w (fc.set f (v, x.sure)) (fs.set f x) F := by
  obtain ⟨h1, h2⟩ := h
  refine ⟨by simp [h1], fun i m hm => ?_⟩
  by_cases hi : i = f
  · subst hi
    have hl : i < fs.length := by have := (List.getElem?_eq_some_iff.1 hm).1; simpa using this
    rw [List.getElem?_set_self hl] at hm
    cases hm
    exact ⟨v, G, List.getElem?_set_self (by omega), s, hG⟩
  · rw [List.getElem?_set_ne (Ne.symm hi)] at hm
    obtain ⟨e', G', h3, h4, h5⟩ := h2 i m hm
    exact ⟨e', G', by rw [List.getElem?_set_ne (Ne.symm hi)]; exact h3, h4, h5⟩
/-- what is never changed in place. -/
def immHP (fc : List (SV × Nat)) (dv : Value) (es : List SV) (fs : List Fl) (ds : List Dir) : HP where
  p w F := (∀ b ∈ F, b < hsz w) ∧ (∃ G, Slc encV 1 w dv es G ∧ ∀ b ∈ G, b ∈ F) ∧ Ents w es ds F ∧ Fils w fc fs F
  lt := fun h => h.1
  st := by
    rintro w w' F ⟨h1, ⟨G, h2, h3⟩, h4, h5⟩ hk
    refine ⟨fun b hb => ?_, ⟨G, h2.congr fun b hb => hk b (h3 b hb), h3⟩, h4.st hk, h5.st hk⟩
    have := hk b hb
    have hlt := h1 b hb
    refine Nat.lt_of_not_le fun hge => ?_
    have e1 : blk w' b = none := blk_none hge
    rw [e1] at this
    have := Array.getElem?_eq_none_iff.1 (show w.heap[b]? = none from this.symm)
    unfold hsz at hlt
    omega
def rfC (s : Dk) (fv dv : Value) : List Value := [.int .i64 s.room, fv, dv, .int .i64 s.burn, .bool s.gone]
def rfL (d : Nat) (s : Dk) (fv dv : Value) (fc : List (SV × Nat)) (es : List SV) : List HP := [pts d (rfC s fv dv), slc encG 2 fv fc, immHP fc dv es s.files s.dirs]
def rfHP (d : Nat) (s : Dk) : HP := ex fun x : Value × Value × List (SV × Nat) × List SV => stars (rfL d s x.1 x.2.1 x.2.2.1 x.2.2.2)
theorem idxs_at {s : ByteArray} {i : Nat} {x : UInt8} (h : s.data.toList[i]? = some x) : indexs (.string s) (.int .i64 (i : Int)) = some (.int .u8 (x.toNat : Int)) := by
  have hi : i < s.size := by have := (List.getElem?_eq_some_iff.1 h).1; simpa using this
  have e : s[i]? = some x := by
    rw [getElem?_pos s i hi]
    rw [Array.getElem?_toList, Array.getElem?_eq_getElem hi] at h
    exact h
  unfold indexs
  simp [e]
theorem incB {i : Nat} (h : i < 9223372036854775807) : binv .int .add (.int .i64 (i : Int)) (.int .i64 1) = some (.int .i64 ((i + 1 : Nat) : Int)) := by
  rw [binv_add, wrap_i64 (by omega) (by omega)]; congr 2
/-- a name's file's number, or -1. -/
def numOf (o : Option Nat) : Int := match o with | none => -1 | some f => (f : Int)
theorem findD_drop {l : Dir} {n : ByteArray} {i : Nat} {x : ByteArray × Nat} (hx : l[i]? = some x) (h : findD l n = findD (l.drop i) n) : (x.1 = n → findD l n = some x.2) ∧ (x.1 ≠ n → findD l n = findD (l.drop (i + 1)) n) := by
  have hi := (List.getElem?_eq_some_iff.1 hx).1
  have e : l.drop i = x :: l.drop (i + 1) := by rw [List.drop_eq_getElem_cons hi]; congr; exact (List.getElem?_eq_some_iff.1 hx).2
  obtain ⟨k, f⟩ := x
  rw [h, e]
  simp only [findD]
  exact ⟨fun h => by rw [if_pos h], fun h => by rw [if_neg h]⟩
section
variable {w0 w : World} {F0 : List Nat} {d : Nat} {s : Dk}
theorem rf_open (h : At w0 F0 (rfHP d s) w) : ∃ fv dv fc es, At w0 F0 (stars (rfL d s fv dv fc es)) w := by
  obtain ⟨F, ⟨⟨fv, dv, fc, es⟩, h1⟩, h2, h3⟩ := h
  exact ⟨fv, dv, fc, es, F, h1, h2, h3⟩
theorem rf_shut {fv dv : Value} {fc : List (SV × Nat)} {es : List SV} (h : At w0 F0 (stars (rfL d s fv dv fc es)) w) : At w0 F0 (rfHP d s) w := by
  obtain ⟨F, h1, h2, h3⟩ := h
  exact ⟨F, ⟨⟨fv, dv, fc, es⟩, h1⟩, h2, h3⟩
end
set_option linter.unusedSimpArgs false
set_option linter.unusedVariables false
set_option maxRecDepth 20000
set_option maxHeartbeats 4000000
attribute [local congr] BND_cg COND_cg GEF_cg
attribute [local irreducible] capl slicea load1 loadn iaddr iaddra faddr storev newslice binv lookv mupd mdel mlenv mentry mestore slicev slicev3 slices indexs indexav textv rangev nexts clearv shiftv eqaggv convi buildv pickv lens lenl unv nilchk extractv partn JOIN
section
variable {w0 w : World} {F0 : List Nat} {d : Nat} {s : Dk} {fv dv : Value} {fc : List (SV × Nat)} {es : List SV} {R : Value → World → Prop}
theorem rf_now (h : At w0 F0 (stars (rfL d s fv dv fc es)) w) (hne : s.dirs ≠ []) (hn : s.dirs.length < 1000000000) (hR : ∀ e G, es[s.dirs.length - 1]? = some e → Slc encE 2 w.drew e.v s.now G → R e.v w.drew) : CALL PR F_tumbrelref06_Disk_now [ptrTo d] w R := by
  refine C_tumbrelref06_Disk_now ?_
  unfold M_tumbrelref06_Disk_now ptrTo
  obtain ⟨T, c⟩ := h.cell (i := 0) rfl
  obtain ⟨F, ⟨_, ⟨G, sd, _⟩, ⟨hl, hE⟩, _⟩, _⟩ := h.get 2 rfl
  have hpos : 0 < s.dirs.length := List.length_pos_iff.2 hne
  obtain ⟨e, Ge, he, se, _⟩ := hE _ _ (dk_now_get hne)
  have cd : blk w.drew d = some (.cells (rfC s fv dv).toArray T (0, 0)) := c
  have sd' : Slc encV 1 w.drew dv es G := sd.congr fun _ _ => rfl
  obtain ⟨b, o, ia, _, _, l1⟩ := sd'.arr.spot he rfl .i64
  rw [← hl] at ia
  (repeat (first | refine BND_step sd'.len ?_ | refine BND_step (subn_ (n := es.length) (m := 1) (by omega) (by omega)) ?_ | (apply BND_step; exact (l1 (w' := w.drew) rfl (j := 0) rfl)) | refine gg ?_))
  exact hR e Ge he (se.congr fun _ _ => rfl)
theorem rf_find (h : At w0 F0 (rfHP d s) w) (hw : s.Wf) (hn : s.dirs.length < 1000000000) (n : ByteArray) (hR : ∀ w', Fr [] w w' → R (.int .i64 (numOf (s.find n))) w') : CALL PR F_tumbrelref06_Disk_find [ptrTo d, .string n] w R := by
  obtain ⟨fv, dv, fc, es, hs⟩ := rf_open h
  refine C_tumbrelref06_Disk_find ?_
  unfold M_tumbrelref06_Disk_find
  refine rf_now hs hw.ne hn fun e G _ se => ?_
  have h60 := hw.many _ (now_mem hw)
  refine loop_up 0 s.now.length (fun i w' => Fr [] w.drew w' ∧ findD s.now n = findD (s.now.drop i) n) ⟨Fr.refl _ _, rfl⟩ (by omega) ?_
  rintro i w1 - hi ⟨f1, e1⟩ J m hJ
  by_cases hlt : i < s.now.length
  · have hx := List.getElem?_eq_getElem hlt
    generalize s.now[i] = x at hx
    obtain ⟨b, o, ia, _, _, l1⟩ := (se.fr f1 (by simp)).arr.spot hx rfl .i64
    obtain ⟨y, nn⟩ := findD_drop hx e1
    obtain ⟨k, f⟩ := x
    simp only at y nn
    (repeat (first | refine BND_step se.len ?_ | (apply BND_step; exact (l1 (w' := w1) rfl (j := 0) rfl)) | (apply BND_step; exact (l1 (w' := w1) rfl (j := 1) rfl)) | refine gg ?_))
    by_cases hk : k = n
    · (repeat (first | (apply BND_step; exact (l1 (w' := w1) rfl (j := 1) rfl)) | refine gg ?_))
      have := hR w1 ((Fr.drew _ _).trans' f1)
      unfold Dk.find numOf at this
      rw [y hk] at this
      exact this
    · (repeat refine gg ?_)
      exact hJ _ hlt ⟨f1, nn hk⟩
  · (repeat (first | refine BND_step se.len ?_ | refine gg ?_))
    rw [List.drop_eq_nil_of_le (by omega)] at e1
    have := hR w1 ((Fr.drew _ _).trans' f1)
    unfold Dk.find numOf at this
    rw [e1] at this
    exact this
theorem rf_may (n : ByteArray) (hsz_ : n.size ≤ 9223372036854775807) (hR : ∀ w', Fr [] w w' → R (.bool (named n)) w') : CALL PR F_tumbrelref06_may [.string n] w R := by
  refine C_tumbrelref06_may ?_
  unfold M_tumbrelref06_may
  have hl : n.data.toList.length = n.size := Array.length_toList
  unfold named at hR
  refine loop_up 0 n.size (fun i w' => w' = w ∧ (n.data.toList.take i).all okByte = true) ⟨rfl, rfl⟩ (by omega) ?_
  rintro i w1 - hi ⟨rfl, e⟩ J m hJ
  by_cases hlt : i < n.size
  · have hx := List.getElem?_eq_getElem (l := n.data.toList) (i := i) (by omega)
    have hmem := List.getElem_mem (l := n.data.toList) (n := i) (by omega)
    generalize n.data.toList[i] = x at hx hmem
    have no : okByte x = false → R (.bool false) w1 := fun h => by
      have := hR w1 (Fr.refl _ _)
      rwa [show n.data.toList.all okByte = false from List.all_eq_false.2 ⟨x, hmem, by simp [h]⟩, Bool.and_false] at this
    have yes : okByte x = true → J (.int .i64 ((i + 1 : Nat) : Int)) w1 ∧ m (.int .i64 ((i + 1 : Nat) : Int)) w1 < m (.int .i64 (i : Int)) w1 := fun h =>
      hJ w1 hlt ⟨rfl, by rw [List.take_add_one, hx, List.all_append, e]; simp [h]⟩
    have hok : okByte x = true ↔ x.toNat = 46 ∨ (48 ≤ x.toNat ∧ x.toNat ≤ 57) ∨ (97 ≤ x.toNat ∧ x.toNat ≤ 122) := by
      unfold okByte
      simp only [Bool.or_eq_true, Bool.and_eq_true, decide_eq_true_eq, UInt8.le_iff_toNat_le, ← UInt8.toNat_inj]
      simp [or_assoc]
    have einc := incB (i := i) (by omega)
    (repeat (first | refine BND_step (idxs_at hx) ?_ | refine gg ?_))
    by_cases q1 : (x.toNat : Int) = 46
    · (repeat refine gg ?_)
      exact yes (hok.2 (by omega))
    (repeat refine gg ?_)
    by_cases q2 : (48 : Int) ≤ (x.toNat : Int)
    · by_cases q3 : (x.toNat : Int) ≤ 57
      · (repeat refine gg ?_)
        exact yes (hok.2 (by omega))
      · by_cases q4 : (97 : Int) ≤ (x.toNat : Int)
        · by_cases q5 : (x.toNat : Int) ≤ 122
          · (repeat refine gg ?_)
            exact yes (hok.2 (by omega))
          · (repeat refine gg ?_)
            exact no (Bool.eq_false_iff.2 fun h => by have := hok.1 h; omega)
        · (repeat refine gg ?_)
          exact no (Bool.eq_false_iff.2 fun h => by have := hok.1 h; omega)
    · (repeat refine gg ?_)
      exact no (Bool.eq_false_iff.2 fun h => by have := hok.1 h; omega)
  · rw [List.take_of_length_le (by omega)] at e
    have := hR w1 (Fr.refl _ _)
    rw [e, Bool.and_true] at this
    by_cases q1 : 1 ≤ n.size
    · by_cases q2 : n.size ≤ 12
      · (repeat refine gg ?_)
        simpa [q1, q2] using this
      · (repeat refine gg ?_)
        simpa [q1, q2] using this
    · (repeat refine gg ?_)
      simpa [q1] using this
theorem rf_can (h : At w0 F0 (rfHP d s) w) (e : Int) (hb : -1 ≤ s.burn ∧ s.burn ≤ 9223372036854775807) (hR : ∀ w', At w0 F0 (rfHP d (can s e).1) w' → R (.int .i64 (can s e).2) w') : CALL PR F_tumbrelref06_Disk_can [ptrTo d, .int .i64 e] w R := by
  obtain ⟨fv, dv, fc, es, hs⟩ := rf_open h
  refine C_tumbrelref06_Disk_can ?_
  unfold M_tumbrelref06_Disk_can ptrTo
  unfold can at hR
  obtain ⟨T, c⟩ := hs.cell (i := 0) rfl
  (repeat refine gg ?_)
  cases hg : s.gone with
  | true =>
    rw [hg] at hR
    simp only [if_true] at hR
    (repeat refine gg ?_)
    exact hR w h
  | false =>
    rw [hg] at hR
    simp only [Bool.false_eq_true, if_false] at hR
    (repeat refine gg ?_)
    by_cases he : e = 0
    · subst he
      simp only [ne_eq, not_true_eq_false, if_false] at hR
      (repeat refine gg ?_)
      by_cases hb0 : s.burn = 0
      · simp only [hb0, if_true] at hR
        (repeat refine gg ?_)
        refine hs.store (i := 0) rfl ⟨rfl, rfl⟩ (by simp [rfC]) fun w1 h1 f1 => ?_
        exact hR w1 (rf_shut (s := { s with burn := 0, gone := true }) (fv := fv) (dv := dv) (fc := fc) (es := es) (by rw [← hb0]; exact h1))
      · simp only [hb0, if_false] at hR
        (repeat refine gg ?_)
        by_cases hb1 : 0 < s.burn
        · simp only [hb1, if_true] at hR
          (repeat refine gg ?_)
          refine join_w (fun w' => At w0 F0 (rfHP d { s with burn := s.burn - 1 }) w') (fun K hK => ?_) (fun w' hw' => hR w' (by rw [hg] at hw'; exact hw'))
          have esub : binv .int .sub (.int .i64 s.burn) (.int .i64 1) = some (.int .i64 (s.burn - 1)) := by rw [binv_sub, wrap_i64 (by omega) (by omega)]
          (repeat refine gg ?_)
          refine hs.store (i := 0) rfl ⟨rfl, rfl⟩ (by simp [rfC]) fun w1 h1 f1 => hK w1 ?_
          exact rf_shut (s := { s with burn := s.burn - 1 }) (fv := fv) (dv := dv) (fc := fc) (es := es) h1
        · simp only [hb1, if_false] at hR
          (repeat refine gg ?_)
          refine join_w (fun w' => At w0 F0 (rfHP d s) w') (fun K hK => ?_) (fun w' hw' => hR w' hw')
          (repeat refine gg ?_)
          exact hK w h
    · simp only [ne_eq, he, not_false_eq_true, if_true] at hR
      (repeat refine gg ?_)
      exact hR w h
theorem rf_Fuse (h : At w0 F0 (rfHP d s) w) (n : Int) (hR : ∀ w', At w0 F0 (rfHP d (fuse s n)) w' → R (.tuple #[]) w') : CALL PR F_tumbrelref06_Disk_Fuse [ptrTo d, .int .i64 n] w R := by
  obtain ⟨fv, dv, fc, es, hs⟩ := rf_open h
  refine C_tumbrelref06_Disk_Fuse ?_
  unfold M_tumbrelref06_Disk_Fuse ptrTo
  have e : max2v (.int .i64 n) (.int .i64 (-1)) = some (.int .i64 (if n < -1 then -1 else n)) := rfl
  (repeat refine gg ?_)
  refine hs.store (i := 0) rfl ⟨rfl, rfl⟩ (by simp [rfC]) fun w1 h1 f1 => ?_
  exact hR w1 (rf_shut (s := fuse s n) (fv := fv) (dv := dv) (fc := fc) (es := es) h1)
theorem rf_New (room : Int) (hR0 : (room < 16 ∨ 1048576 < room) → R (.tuple #[.pointer none, .int .i64 1]) w)
    (hR : 16 ≤ room ∧ room ≤ 1048576 → ∀ w' d, At w [] (rfHP d (empty room)) w' → R (.tuple #[ptrTo d, .int .i64 0]) w') : CALL PR F_tumbrelref06_New [.int .i64 room] w R := by
  refine C_tumbrelref06_New ?_
  unfold M_tumbrelref06_New
  by_cases h1 : room < 16
  · (repeat refine gg ?_)
    exact hR0 (.inl h1)
  by_cases h2 : 1048576 < room
  · (repeat refine gg ?_)
    exact hR0 (.inr h2)
  (repeat refine gg ?_)
  refine newnil_step encE fun t w1 s1 f1 z1 => ?_
  obtain ⟨e, rfl⟩ := slc_sv s1
  refine newone_step (enc := encV) (x := e) encV_len rfl fun u w2 s2 f2 z2 => ?_
  obtain ⟨eu, rfl⟩ := slc_sv s2
  (repeat (first | refine gg ?_ | (apply BND_build ([.int .i64 room, .slice none 0 0, eu.v, .int .i64 (-1), .bool false]); exact rfl)))
  refine NEW_intro fun w3 b3 f3 z3 => ?_
  (repeat refine gg ?_)
  refine hR (by omega) w3 (hsz w2) (rf_shut (fv := .slice none 0 0) (dv := eu.v) (fc := []) (es := [e]) ⟨[hsz w2, hsz w1, hsz w], ?_, fun b hb => ?_, (f1.trans' f2).trans' f3⟩)
  · refine ⟨[hsz w2], [hsz w1, hsz w], ⟨⟨_, b3⟩, rfl⟩, ⟨[], [hsz w1, hsz w], Slc.nil _ _ _, ⟨[hsz w1, hsz w], [], ⟨fun b hb => ?_, ⟨[hsz w1], s2.fr f3 (by simp), by simp⟩, Ents.one ((s1.fr f2 (by simp)).fr f3 (by simp)) (by simp), ⟨rfl, fun i x h => by simp [empty] at h⟩⟩, ⟨trivial, rfl⟩, rfl, by simp⟩, rfl, by simp⟩, rfl, fun b hb hb' => ?_⟩
    · have := f3.grow
      simp at hb; omega
    · simp at hb hb'; omega
  · simp at hb
    right; omega
end
end Go.Proofs.YtmefbneoljpbgaaGreatDoor
end

section
namespace Go.Proofs.YtmefbneoljpbgaaGreatDoor
open Go.Den Go.Disk
theorem withD_at {x : ByteArray × Nat} : ∀ {l : Dir} {i : Nat}, (∀ y ∈ l.take i, bl y.1 x.1 = true) → (l.length ≤ i ∨ ∃ y, l[i]? = some y ∧ bl y.1 x.1 = false) → withD l x = l.take i ++ [x] ++ l.drop i
  | [], i, _, _ => by simp [withD]
  | z :: l, 0, _, h2 => by
    rcases h2 with h2 | ⟨y, h2, h3⟩
    · simp at h2
    · simp at h2; subst h2
      simp [withD, h3]
  | z :: l, i + 1, h1, h2 => by
    have hz : bl z.1 x.1 = true := h1 z (by simp)
    have := withD_at (l := l) (i := i) (fun y hy => h1 y (by simp [hy])) (by
      rcases h2 with h2 | ⟨y, h2, h3⟩
      · left; simpa using h2
      · right; exact ⟨y, by simpa using h2, h3⟩)
    simp [withD, hz, this]
theorem At.mono2 {P Q : HP} {w0 w : World} {F0 : List Nat} (h : At w0 F0 P w) (hpq : ∀ F, P.p w F → ∃ F', Q.p w F' ∧ ∀ b ∈ F', b ∈ F) : At w0 F0 Q w := by
  obtain ⟨F, h1, h2, h3⟩ := h
  obtain ⟨F', h4, h5⟩ := hpq F h1
  exact ⟨F', h4, fun b hb => h2 b (h5 b hb), h3⟩
/-- a new directory, and the row of all. -/
def newHP (dv : Value) (es : List SV) (e : SV) (l : Dir) : HP where
  p w F := (∀ b ∈ F, b < hsz w) ∧ (∃ G, Slc encV 1 w dv es G ∧ ∀ b ∈ G, b ∈ F) ∧ ∃ G, Slc encE 2 w e.v l G ∧ ∀ b ∈ G, b ∈ F
  lt := fun h => h.1
  st := by
    rintro w w' F ⟨h1, ⟨G, h2, h3⟩, ⟨H, h4, h5⟩⟩ hk
    refine ⟨fun b hb => ?_, ⟨G, h2.congr fun b hb => hk b (h3 b hb), h3⟩, H, h4.congr fun b hb => hk b (h5 b hb), h5⟩
    have := hk b hb
    have hlt := h1 b hb
    refine Nat.lt_of_not_le fun hge => ?_
    have e1 : blk w' b = none := blk_none hge
    rw [e1] at this
    have := Array.getElem?_eq_none_iff.1 (show w.heap[b]? = none from this.symm)
    unfold hsz at hlt
    omega
theorem stlt (a b : ByteArray) : binv .str .lss (.string a) (.string b) = some (.bool (bl a b)) := rfl
set_option linter.unusedSimpArgs false
set_option linter.unusedVariables false
set_option maxRecDepth 20000
set_option maxHeartbeats 4000000
attribute [local congr] BND_cg COND_cg GEF_cg
attribute [local irreducible] capl slicea load1 loadn iaddr iaddra faddr storev newslice binv lookv mupd mdel mlenv mentry mestore slicev slicev3 slices indexs indexav textv rangev nexts clearv shiftv eqaggv convi buildv pickv lens lenl unv nilchk extractv partn JOIN
section
variable {w0 w w' : World} {F0 : List Nat} {d : Nat} {s : Dk} {fv dv v : Value} {fc : List (SV × Nat)} {es : List SV} {l : Dir} {G : List Nat} {R : Value → World → Prop}
theorem rf_with (sl : Slc encE 2 w v l G) (x : ByteArray × Nat) (hn : l.length < 1000000) (hR : ∀ (w' : World) (e : SV) (G' : List Nat), Slc encE 2 w' e.v (withD l x) G' → (∀ b ∈ G', hsz w ≤ b) → Fr [] w w' → R e.v w') : CALL PR F_tumbrelref06_with [v, .agg (encE x).toArray] w R := by
  refine C_tumbrelref06_with ?_
  unfold M_tumbrelref06_with
  refine NEW_intro fun w1 b1 f1 z1 => ?_
  replace b1 : blk w1 (hsz w) = some (.cells (encE x).toArray _ (0, 0)) := b1
  refine loop_up 0 l.length (fun i w' => Fr [] w1 w' ∧ ∀ y ∈ l.take i, bl y.1 x.1 = true) ⟨Fr.refl _ _, by simp⟩ (by omega) ?_
  rintro i w2 - hi ⟨f2, e2⟩ J m hJ
  have f12 := f1.trans' (f2.trans' (Fr.drew [] w2))
  have s2 := sl.fr f12 (by simp)
  have b2 := (f2.trans' (Fr.drew [] w2)).some (by simp) b1
  have g12 := f12.grow
  have fin : ∀ (_ : l.length ≤ i ∨ ∃ y, l[i]? = some y ∧ bl y.1 x.1 = false), (BND (newslice 120 #[(Value.string ByteArray.empty), (Value.int .i64 0)] 2 0 [] w2.drew) fun p_ => NEW p_ fun t23_32 w3 =>
      BND (slicev 2 v none (some (.int .i64 (i : Int)))) fun t26_33 =>
      APPEND 120 2 24 (Value.agg #[(Value.string ByteArray.empty), (Value.int .i64 0)]) t23_32 t26_33 w3 fun t27_34 w4 =>
      BND (slicev 2 v (some (.int .i64 (i : Int))) none) fun t34_35 =>
      BND (loadn 2 w4.drew (.pointer (some ⟨hsz w, 0, none⟩))) fun t29_36 =>
      BND (newslice 120 #[(Value.string ByteArray.empty), (Value.int .i64 0)] 2 1 [(0, 2, t29_36)] w4.drew) fun p_ => NEW p_ fun t30_37 w5 =>
      APPEND 120 2 24 (Value.agg #[(Value.string ByteArray.empty), (Value.int .i64 0)]) t27_34 t30_37 w5 fun t31_38 w6 =>
      APPEND 120 2 24 (Value.agg #[(Value.string ByteArray.empty), (Value.int .i64 0)]) t31_38 t34_35 w6 fun t35_39 w7 =>
      R t35_39 w7) := by
    intro hend
    have hw := withD_at e2 hend
    have ed : hsz w2.drew = hsz w2 := rfl
    have hG := s2.lt
    obtain ⟨va, ea, ca⟩ := s2.upto encE_len (n := i) hi .i64
    obtain ⟨vb, eb, cb⟩ := s2.from encE_len (n := i) hi .i64
    refine newnil_step encE fun t3 w3 s3 f3 z3 => ?_
    (repeat refine gg ?_)
    refine APPEND_slc s3 (ca w3 fun b hb => f3.keep b (hG b hb) (by simp)) encE_len encE_one rfl (by simp; omega) (by simp; omega) fun v4 w4 F4 s4 f4 sub4 => ?_
    rw [List.nil_append] at s4
    have sub4' : ∀ b ∈ F4, hsz w2.drew ≤ b := fun b hb => by
      rcases sub4 b hb with h | h
      · simp at h; omega
      · omega
    have f24 : Fr [] w2.drew w4.drew := (f3.trans f4 fun b hb => .inr (by simp at hb; omega)).trans' (Fr.drew _ _)
    have b4 := f24.some (by simp) b2
    (repeat (first | refine BND_step (loadn_all b4 rfl) ?_ | refine gg ?_))
    refine push_step (enc := encE) (x := x) (s4.fr (Fr.drew [] _) (by simp)) encE_len encE_one rfl rfl (by omega) (by simp; omega) fun v6 w6 F6 s6 sub6 f6 => ?_
    have sub6' : ∀ b ∈ F6, hsz w2.drew ≤ b := fun b hb => by
      rcases sub6 b hb with h | h
      · exact sub4' b h
      · have := f24.grow; omega
    have f26 : Fr [] w2.drew w6 := f24.trans f6 fun b hb => .inr (sub4' b hb)
    refine APPEND_slc s6 (cb w6 fun b hb => f26.keep b (hG b hb) (by simp)) encE_len encE_one rfl (by simp; omega) (by simp; omega) fun v7 w7 F7 s7 f7 sub7 => ?_
    rw [← hw] at s7
    obtain ⟨e, rfl⟩ := slc_sv s7
    have f27 := f26.trans f7 fun b hb => .inr (sub6' b hb)
    refine hR w7 e F7 s7 (fun b hb => ?_) (f12.trans' f27)
    rcases sub7 b hb with h | h
    · have := sub6' b h; omega
    · have := f26.grow; omega
  by_cases hlt : i < l.length
  · have hx := List.getElem?_eq_getElem hlt
    generalize l[i] = y at hx
    obtain ⟨b, o, ia, _, _, l1⟩ := s2.arr.spot hx rfl .i64
    have elt := stlt y.1 x.1
    (repeat (first | refine BND_step sl.len ?_ | (apply BND_step; exact (l1 (w' := w2.drew) rfl (j := 0) rfl)) | refine gg ?_))
    cases hb : bl y.1 x.1 with
    | true =>
      (repeat refine gg ?_)
      refine hJ _ hlt ⟨f2.trans' (Fr.drew _ _), fun z hz => ?_⟩
      rw [List.take_add_one, hx] at hz
      rcases List.mem_append.1 hz with hz | hz
      · exact e2 z hz
      · simp at hz; subst hz; exact hb
    | false =>
      (repeat refine gg ?_)
      exact fin (.inr ⟨y, hx, hb⟩)
  · (repeat (first | refine BND_step sl.len ?_ | refine gg ?_))
    exact fin (.inl (by omega))
/-- the row of directories is given a new one. -/
theorem rf_dirs {K : World → Prop} {dv' : Value} {e : SV} {G1 G2 : List Nat} (h : At w0 F0 (stars (rfL d s fv dv fc es)) w) (f : Fr [] w w') (sv : Slc encV 1 w' dv' (es ++ [e]) G1) (h1 : ∀ b ∈ G1, hsz w ≤ b) (se : Slc encE 2 w' e.v l G2) (h2 : ∀ b ∈ G2, hsz w ≤ b)
    (hK : ∀ w'', At w0 F0 (rfHP d { s with dirs := s.dirs ++ [l] }) w'' → K w'') : BND (storev 1 w' (.pointer (some ⟨d, 2, none⟩)) dv') K := by
  have hn : (newHP dv' (es ++ [e]) e l).p w' (G1 ++ G2) := ⟨fun b hb => by
    rcases List.mem_append.1 hb with hb | hb
    · exact sv.lt b hb
    · exact se.lt b hb, ⟨G1, sv, fun b hb => by simp [hb]⟩, G2, se, fun b hb => by simp [hb]⟩
  have ha := h.add f hn (fun b hb => by
    rcases List.mem_append.1 hb with hb | hb
    · exact h1 b hb
    · exact h2 b hb)
  refine ha.store (i := 1) rfl sv.one (by simp [rfC]) fun w2 h3 _ => hK w2 (rf_shut (fv := fv) (dv := dv') (fc := fc) (es := es ++ [e]) (At.mono2 h3 fun F hF => ?_))
  obtain ⟨A, _, ⟨n1, ⟨G3, n2, n3⟩, G4, n4, n5⟩, ⟨A2, _, hp, ⟨A3, _, hs, ⟨A4, _, ⟨i1, ⟨G5, i2, i3⟩, i4, i5⟩, ⟨_, rfl⟩, rfl, d4⟩, rfl, d3⟩, rfl, d2⟩, rfl, d1⟩ := hF
  refine ⟨A2 ++ (A3 ++ ((A4 ++ A) ++ [])), ⟨A2, _, hp, ⟨A3, _, hs, ⟨A4 ++ A, [], ⟨fun b hb => ?_, ⟨G3, n2, fun b hb => by simp [n3 b hb]⟩, (i4.sub fun b hb => by simp [hb]).snoc n4 (fun b hb => by simp [n5 b hb]), i5.sub fun b hb => by simp [hb]⟩, ⟨trivial, rfl⟩, rfl, by simp⟩, rfl, fun b hb hb' => ?_⟩, rfl, fun b hb hb' => ?_⟩, fun b hb => ?_⟩
  · rcases List.mem_append.1 hb with hb | hb
    · exact i1 b hb
    · exact n1 b hb
  · simp only [List.append_nil, List.mem_append] at hb'
    rcases hb' with hb' | hb'
    · exact d3 b hb (by simp [hb'])
    · exact d1 b hb' (by simp [hb])
  · simp only [List.append_nil, List.mem_append] at hb'
    rcases hb' with hb' | hb' | hb'
    · exact d2 b hb (by simp [hb'])
    · exact d2 b hb (by simp [hb'])
    · exact d1 b hb' (by simp [hb])
  · simp only [List.append_nil, List.mem_append] at hb ⊢
    rcases hb with hb | hb | hb | hb <;> simp [hb]
/-- the row of directories is just one of them. -/
theorem rf_dir1 {K : World → Prop} {dv' : Value} {e : SV} {G1 : List Nat} {i : Nat} (h : At w0 F0 (stars (rfL d s fv dv fc es)) w) (f : Fr [] w w') (sv : Slc encV 1 w' dv' [e] G1) (h1 : ∀ b ∈ G1, hsz w ≤ b) (he : es[i]? = some e) (hl : s.dirs[i]? = some l)
    (hK : ∀ w'', At w0 F0 (stars (rfL d { s with dirs := [l] } fv dv' fc [e])) w'' → K w'') : BND (storev 1 w' (.pointer (some ⟨d, 2, none⟩)) dv') K := by
  have ha := h.add f (P := slc encV 1 dv' [e]) sv h1
  refine ha.store (i := 1) rfl sv.one (by simp [rfC]) fun w2 h3 _ => hK w2 (At.mono2 h3 fun F hF => ?_)
  obtain ⟨A, _, n2, ⟨A2, _, hp, ⟨A3, _, hs, ⟨A4, _, ⟨i1, ⟨G5, i2, i3⟩, i4, i5⟩, ⟨_, rfl⟩, rfl, d4⟩, rfl, d3⟩, rfl, d2⟩, rfl, d1⟩ := hF
  replace n2 : Slc encV 1 w2 dv' [e] A := n2
  obtain ⟨e', G', q1, q2, q3⟩ := i4.2 i l hl
  rw [he] at q1
  cases q1
  refine ⟨A2 ++ (A3 ++ ((A4 ++ A) ++ [])), ⟨A2, _, hp, ⟨A3, _, hs, ⟨A4 ++ A, [], ⟨fun b hb => ?_, ⟨A, n2, fun b hb => by simp [hb]⟩, Ents.one q2 (fun b hb => by simp [q3 b hb]), i5.sub fun b hb => by simp [hb]⟩, ⟨trivial, rfl⟩, rfl, by simp⟩, rfl, fun b hb hb' => ?_⟩, rfl, fun b hb hb' => ?_⟩, fun b hb => ?_⟩
  · rcases List.mem_append.1 hb with hb | hb
    · exact i1 b hb
    · exact n2.lt b hb
  · simp only [List.append_nil, List.mem_append] at hb'
    rcases hb' with hb' | hb'
    · exact d3 b hb (by simp [hb'])
    · exact d1 b hb' (by simp [hb])
  · simp only [List.append_nil, List.mem_append] at hb'
    rcases hb' with hb' | hb' | hb'
    · exact d2 b hb (by simp [hb'])
    · exact d2 b hb (by simp [hb'])
    · exact d1 b hb' (by simp [hb])
  · simp only [List.append_nil, List.mem_append] at hb ⊢
    rcases hb with hb | hb | hb | hb <;> simp [hb]
/-- the row of files is another one. -/
theorem rf_files {K : World → Prop} {fv' : Value} {v : SV} {x : Fl} {G1 : List Nat} (h : At w0 F0 (stars (rfL d s fv dv fc es)) w) (f : Fr [] w w') (sv : Slc encG 2 w' fv' (fc ++ [(v, x.sure)]) G1) (h1 : ∀ b ∈ G1, hsz w ≤ b) (hx : ∀ w'', Slc encB 1 w'' v.v x.b [])
    (hK : ∀ w'', At w0 F0 (stars (rfL d { s with files := s.files ++ [x] } fv' dv (fc ++ [(v, x.sure)]) es)) w'' → K w'') : BND (storev 1 w' (.pointer (some ⟨d, 1, none⟩)) fv') K := by
  have ha := h.add f (P := slc encG 2 fv' (fc ++ [(v, x.sure)])) sv h1
  refine ha.store (i := 1) rfl sv.one (by simp [rfC]) fun w2 h3 _ => hK w2 (At.mono2 h3 fun F hF => ?_)
  obtain ⟨A, _, n2, ⟨A2, _, hp, ⟨A3, _, hs, ⟨A4, _, ⟨i1, ⟨G5, i2, i3⟩, i4, i5⟩, ⟨_, rfl⟩, rfl, d4⟩, rfl, d3⟩, rfl, d2⟩, rfl, d1⟩ := hF
  refine ⟨A2 ++ (A ++ (A4 ++ [])), ⟨A2, _, hp, ⟨A, _, n2, ⟨A4, [], ⟨i1, ⟨G5, i2, i3⟩, i4, i5.snoc (hx w2) (by simp)⟩, ⟨trivial, rfl⟩, rfl, by simp⟩, rfl, fun b hb hb' => ?_⟩, rfl, fun b hb hb' => ?_⟩, fun b hb => ?_⟩
  · exact d1 b hb (by simp only [List.append_nil, List.mem_append] at hb' ⊢; simp [hb'])
  · simp only [List.append_nil, List.mem_append] at hb'
    rcases hb' with hb' | hb'
    · exact d1 b hb' (by simp [hb])
    · exact d2 b hb (by simp [hb'])
  · simp only [List.append_nil, List.mem_append] at hb ⊢
    rcases hb with hb | hb | hb <;> simp [hb]
end
end Go.Proofs.YtmefbneoljpbgaaGreatDoor
end

section
namespace Go.Proofs.YtmefbneoljpbgaaGreatDoor
open Go.Den Go.Disk
theorem numOf_neg {o : Option Nat} : numOf o < 0 ↔ o = none := by
  cases o with
  | none => simp [numOf]
  | some f => simp [numOf]
theorem there_num (s : Dk) (n : ByteArray) : there s n = if numOf (s.find n) < 0 then 5 else 0 := by
  unfold there
  cases h : s.find n with
  | none => simp [numOf]
  | some f =>
    have : ¬ ((f : Int) < 0) := by omega
    simp [numOf, this]
set_option linter.unusedSimpArgs false
set_option linter.unusedVariables false
set_option maxRecDepth 20000
set_option maxHeartbeats 4000000
attribute [local congr] BND_cg COND_cg GEF_cg
attribute [local irreducible] capl slicea load1 loadn iaddr iaddra faddr storev newslice binv lookv mupd mdel mlenv mentry mestore slicev slicev3 slices indexs indexav textv rangev nexts clearv shiftv eqaggv convi buildv pickv lens lenl unv nilchk extractv partn JOIN
section
variable {w0 w w' : World} {F0 : List Nat} {d : Nat} {s : Dk} {fv dv v : Value} {fc : List (SV × Nat)} {es : List SV} {l : Dir} {G : List Nat} {R : Value → World → Prop}
/-- the row of directories, copied. -/
theorem rf_dcopy {E E' bytes : Nat} {zero : Array Value} {zero' : Value} {k : Value → World → Prop} (h : At w0 F0 (stars (rfL d s fv dv fc es)) w) (hn : s.dirs.length < 1000000000) (hz : zero'.cells.size = 1) (hb : bytes ≤ 1000)
    (K : ∀ v' w' G, Slc encV 1 w' v' es G → (∀ b ∈ G, hsz w ≤ b) → Fr [] w w' → k v' w') : BND (newslice E zero 1 0 [] w) fun p_ => NEW p_ fun t w1 => BND (nilchk (ptrTo d)) fun a => BND (faddr 2 a) fun c => BND (load1 w1 c) fun u => APPEND E' 1 bytes zero' t u w1 k := by
  obtain ⟨T, c⟩ := h.cell (i := 0) rfl
  obtain ⟨F, ⟨_, ⟨G, sd, _⟩, ⟨hl, hE⟩, _⟩, _⟩ := h.get 2 rfl
  refine newnil_step encV fun t w1 s1 f1 z1 => ?_
  have c1 := f1.some (by simp) c
  unfold ptrTo
  (repeat refine gg ?_)
  refine APPEND_slc s1 ((sd.fr f1 (by simp)).loads encV_len) encV_len encV_one hz (by simp only [List.length_nil, Nat.zero_add]; exact Nat.le_trans (Nat.mul_le_mul_left _ hb) (by omega)) (by simp; omega) fun v' w' F' s' f' sub => ?_
  refine K v' w' F' (by simpa using s') (fun b hb => ?_) (f1.trans f' fun b hb => .inr (by simp at hb; omega))
  rcases sub b hb with h | h
  · simp at h; omega
  · omega
theorem rf_Create (h : At w0 F0 (rfHP d s) w) (hw : s.Wf) (hn : s.dirs.length < 1000000000) (hn2 : s.files.length < 1000000000) (n : ByteArray) (hn_ : n.size ≤ 9223372036854775807) (hR : ∀ w', At w0 F0 (rfHP d (create s n).1) w' → R (.int .i64 (create s n).2) w') : CALL PR F_tumbrelref06_Disk_Create [ptrTo d, .string n] w R := by
  refine C_tumbrelref06_Disk_Create ?_
  unfold M_tumbrelref06_Disk_Create
  have h60 := hw.many _ (now_mem hw)
  refine rf_may n hn_ fun w1 f1 => ?_
  have h1 := h.fr0 f1
  (repeat refine gg ?_)
  refine join_v (Q := fun v w' => v = .int .i64 (createE s n) ∧ Fr [] w1 w') (fun k hk => ?_) ?_
  · unfold createE at hk
    cases hm : named n with
    | false =>
      rw [hm] at hk
      (repeat refine gg ?_)
      exact hk _ _ ⟨rfl, Fr.refl _ _⟩
    | true =>
      rw [hm] at hk
      simp only [Bool.true_eq_false, if_false] at hk
      (repeat refine gg ?_)
      refine rf_find h1 hw hn n fun w2 f2 => ?_
      by_cases hf : numOf (s.find n) < 0
      · rw [numOf_neg.1 hf] at hk
        simp only [Option.isSome_none, Bool.false_eq_true, if_false] at hk
        (repeat refine gg ?_)
        refine join_v (Q := fun v w' => v = .int .i64 (if 60 ≤ s.now.length then 4 else 0) ∧ Fr [] w1 w') (fun k2 hk2 => ?_) ?_
        · (repeat refine gg ?_)
          obtain ⟨fv, dv, fc, es, hs⟩ := rf_open (h1.fr0 f2)
          refine rf_now hs hw.ne hn fun e Ge _ se => ?_
          by_cases hq : 60 ≤ s.now.length
          · (repeat (first | refine BND_step se.len ?_ | refine gg ?_))
            refine join_v (Q := fun v w' => v = .int .i64 4 ∧ w' = w2.drew) (fun k3 hk3 => ?_) ?_
            · (repeat refine gg ?_)
              exact hk3 _ _ ⟨rfl, rfl⟩
            · rintro _ _ ⟨rfl, rfl⟩
              exact hk2 _ _ ⟨by rw [if_pos hq], f2.trans' (Fr.drew _ _)⟩
          · (repeat (first | refine BND_step se.len ?_ | refine gg ?_))
            refine join_v (Q := fun v w' => v = .int .i64 0 ∧ w' = w2.drew) (fun k3 hk3 => ?_) ?_
            · (repeat refine gg ?_)
              exact hk3 _ _ ⟨rfl, rfl⟩
            · rintro _ _ ⟨rfl, rfl⟩
              exact hk2 _ _ ⟨by rw [if_neg hq], f2.trans' (Fr.drew _ _)⟩
        · rintro v w' ⟨rfl, h⟩
          exact hk _ _ ⟨rfl, h⟩
      · obtain ⟨f, hfs⟩ : ∃ f, s.find n = some f := by
          cases hq : s.find n with
          | none => exact absurd (numOf_neg.2 hq) hf
          | some f => exact ⟨f, rfl⟩
        rw [hfs] at hk
        simp only [Option.isSome_some, if_true] at hk
        (repeat refine gg ?_)
        refine join_v (Q := fun v w' => v = .int .i64 6 ∧ Fr [] w1 w') (fun k2 hk2 => ?_) ?_
        · (repeat refine gg ?_)
          exact hk2 _ _ ⟨rfl, f2⟩
        · rintro v w' ⟨rfl, h⟩
          exact hk _ _ ⟨rfl, h⟩
  rintro _ w2 ⟨rfl, f2⟩
  refine rf_can (h1.fr0 f2) _ hw.burn fun w3 h3 => ?_
  unfold create at hR
  by_cases hc : (can s (createE s n)).2 = 0
  · simp only [hc, if_true] at hR
    rw [hc]
    obtain ⟨k1, k2, k3⟩ := can_keep s (createE s n)
    have hnow : (can s (createE s n)).1.now = s.now := by unfold Dk.now; rw [k2]
    generalize (can s (createE s n)).1 = s1 at hR h3 k1 k2 k3 hnow
    (repeat refine gg ?_)
    refine join_w (fun w' => At w0 F0 (rfHP d { s1 with files := s.files ++ [⟨[], 0⟩], dirs := s.dirs ++ [withD s.now (n, s.files.length)] }) w') (fun K hK => ?_) (fun w' hw' => hR w' hw')
    obtain ⟨fv, dv, fc, es, hs⟩ := rf_open h3
    obtain ⟨T, c⟩ := hs.cell (i := 0) rfl
    obtain ⟨Ff, sf, _⟩ := hs.slc1 (i := 1) rfl
    obtain ⟨hel, hfl⟩ : es.length = s.dirs.length ∧ fc.length = s.files.length := by obtain ⟨F, ⟨_, _, ⟨hl, _⟩, ⟨hl2, _⟩⟩, _⟩ := hs.get 2 rfl; rw [k2] at hl; rw [k1] at hl2; exact ⟨hl, hl2⟩
    (repeat refine gg ?_)
    refine newnil_step encG fun t5 w5 s5 f5 z5 => ?_
    have c5 := f5.some (by simp) c
    unfold ptrTo
    (repeat refine gg ?_)
    refine APPEND_slc s5 ((sf.fr f5 (by simp)).loads encG_len) encG_len encG_one rfl (by simp; omega) (by simp; omega) fun v6 w6 G6 s6 f6 sub6 => ?_
    rw [List.nil_append] at s6
    have g6 : ∀ b ∈ G6, hsz w3 ≤ b := fun b hb => by
      rcases sub6 b hb with h | h
      · simp at h; omega
      · omega
    have f36 : Fr [] w3 w6 := f5.trans f6 fun b hb => .inr (by simp at hb; omega)
    (repeat (first | refine gg ?_ | (apply BND_build ([.slice none 0 0, .int .i64 0]); exact rfl)))
    refine push_step (enc := encG) (x := (⟨none, 0, 0⟩, 0)) s6 encG_len encG_one rfl rfl (by omega) (by omega) fun v8 w8 G8 s8 g8 f8 => ?_
    have f38 : Fr [] w3 w8 := f36.trans f8 fun b hb => .inr (g6 b hb)
    have gr36 := f36.grow
    (repeat refine gg ?_)
    refine rf_files (v := ⟨none, 0, 0⟩) (x := ⟨[], 0⟩) hs f38 s8 (fun b hb => ?_) (fun w => Slc.nil _ _ _) fun w9 h9 => ?_
    · rcases g8 b hb with h | h
      · exact g6 b h
      · omega
    obtain ⟨T9, c9⟩ := h9.cell (i := 0) rfl
    have cd : blk w9.drew d = some (.cells (rfC { s1 with files := s1.files ++ [⟨[], 0⟩] } v8 dv).toArray T9 (0, 0)) := c9
    obtain ⟨Ff9, sf9, _⟩ := h9.slc1 (i := 1) rfl
    obtain ⟨F9, ⟨_, ⟨Gd, sd, _⟩, _⟩, _⟩ := h9.get 2 rfl
    refine ⟨fun _ w' => blk w' d = some (.cells (rfC { s1 with files := s1.files ++ [⟨[], 0⟩] } v8 dv).toArray T9 (0, 0)), cd, cd, ?_⟩
    have hlen : lenl v8 = some (.int .i64 ((s.files.length + 1 : Nat) : Int)) := by rw [sf9.len]; simp [hfl]
    (repeat (first | refine BND_step (subn_ (n := s.files.length + 1) (m := 1) (by omega) (by omega)) ?_ | refine gg ?_ | (apply BND_build ([.string n, .int .i64 ((s.files.length + 1 - 1 : Nat) : Int)]); exact rfl)))
    refine newnil_step encV fun t10 w10 s10 f10 z10 => ?_
    have c10 := f10.some (by simp) cd
    refine ⟨c10, c10, ?_⟩
    refine APPEND_slc s10 (((sd.fr (Fr.drew [] w9) (by simp)).fr f10 (by simp)).loads encV_len) encV_len encV_one rfl (by simp; omega) (by simp; omega) fun v11 w11 G11 s11 f11 sub11 => ?_
    rw [List.nil_append] at s11
    have e9 : hsz w9.drew = hsz w9 := rfl
    have g11 : ∀ b ∈ G11, hsz w9 ≤ b := fun b hb => by
      rcases sub11 b hb with h | h
      · simp at h; omega
      · omega
    have f911 : Fr [] w9 w11 := (Fr.drew [] w9).trans' (f10.trans f11 fun b hb => .inr (by simp at hb; omega))
    have c11 := f911.some (by simp) c9
    refine ⟨c11, ?_⟩
    refine rf_now (h9.fr0 f911) (by show s1.dirs ≠ []; rw [k2]; exact hw.ne) (by show s1.dirs.length < 1000000000; rw [k2]; exact hn) fun e Ge _ se => ?_
    replace se : Slc encE 2 w11.drew e.v s1.now Ge := se
    rw [hnow] at se
    refine ⟨c11, ?_⟩
    refine rf_with se (n, s.files.length + 1 - 1) (by omega) fun w13 e13 G13 s13 g13 f13 => ?_
    replace s13 : Slc encE 2 w13 e13.v (withD s.now (n, s.files.length)) G13 := s13
    have e11 : hsz w11.drew = hsz w11 := rfl
    have gr13 := f13.grow
    have gr911 := f911.grow
    have s11' := (s11.fr (Fr.drew [] w11) (by simp)).fr f13 (by simp)
    refine push_step (enc := encV) (x := e13) s11' encV_len encV_one rfl rfl (by omega) (by omega) fun v14 w14 G14 s14 g14 f14 => ?_
    have s13' := s13.fr f14 (fun b hb hb' => by have := g13 b hb; have := s11.lt b hb'; omega)
    (repeat refine gg ?_)
    refine rf_dirs h9 (((f911.trans' (Fr.drew [] w11)).trans' f13).trans f14 fun b hb => .inr (g11 b hb)) s14 (fun b hb => ?_) s13' (fun b hb => ?_) fun w12 h12 => hK w12 ?_
    · rcases g14 b hb with h | h
      · exact g11 b h
      · omega
    · have := g13 b hb
      omega
    · rw [k1] at h12
      have h12' := h12
      simp only [k2] at h12'
      exact h12'
  · simp only [hc, if_false] at hR
    (repeat refine gg ?_)
    refine join_w (fun w' => At w0 F0 (rfHP d (can s (createE s n)).1) w') (fun K hK => ?_) (fun w' hw' => hR w' hw')
    (repeat refine gg ?_)
    exact hK _ h3
end
end Go.Proofs.YtmefbneoljpbgaaGreatDoor
end

section
namespace Go.Proofs.YtmefbneoljpbgaaGreatDoor
open Go.Den Go.Disk
theorem absorb {P Q R I I' : HP} {w0 w : World} {F0 : List Nat} (h : At w0 F0 (stars [P, Q, R, I]) w) (hI : ∀ A B, P.p w A → I.p w B → I'.p w (B ++ A)) : At w0 F0 (stars [Q, R, I']) w := by
  refine At.mono2 h fun F hF => ?_
  obtain ⟨A, _, n2, ⟨A2, _, hp, ⟨A3, _, hs, ⟨A4, _, hi, ⟨_, rfl⟩, rfl, d4⟩, rfl, d3⟩, rfl, d2⟩, rfl, d1⟩ := hF
  refine ⟨A2 ++ (A3 ++ ((A4 ++ A) ++ [])), ⟨A2, _, hp, ⟨A3, _, hs, ⟨A4 ++ A, [], hI _ _ n2 hi, ⟨trivial, rfl⟩, rfl, by simp⟩, rfl, fun b hb hb' => ?_⟩, rfl, fun b hb hb' => ?_⟩, fun b hb => ?_⟩
  · simp only [List.append_nil, List.mem_append] at hb'
    rcases hb' with hb' | hb'
    · exact d3 b hb (by simp [hb'])
    · exact d1 b hb' (by simp [hb])
  · simp only [List.append_nil, List.mem_append] at hb'
    rcases hb' with hb' | hb' | hb'
    · exact d2 b hb (by simp [hb'])
    · exact d2 b hb (by simp [hb'])
    · exact d1 b hb' (by simp [hb])
  · simp only [List.append_nil, List.mem_append] at hb ⊢
    rcases hb with hb | hb | hb | hb <;> simp [hb]
section
variable {w0 w w' : World} {F0 : List Nat} {d : Nat} {s : Dk} {fv dv : Value} {fc : List (SV × Nat)} {es : List SV} {f : Nat} {x : Fl}
/-- where a file's row stands, how it reads, and is changed. -/
theorem rf_spot (h : At w0 F0 (stars (rfL d s fv dv fc es)) w) (hx : s.files[f]? = some x) : ∃ (b : Nat) (v : SV), iaddr 2 fv (.int .i64 (f : Int)) = some (.pointer (some ⟨b, f * 2, none⟩)) ∧
    (∀ w', Fr [] w w' → load1 w' (.pointer (some ⟨d, 1, none⟩)) = some fv ∧ load1 w' (.pointer (some ⟨b, f * 2 + 0, none⟩)) = some v.v ∧ load1 w' (.pointer (some ⟨b, f * 2 + 1, none⟩)) = some (.int .i64 (x.sure : Int)) ∧ loadn 2 w' (.pointer (some ⟨b, f * 2, none⟩)) = some (.agg #[v.v, .int .i64 (x.sure : Int)]) ∧ ∃ G, Slc encB 1 w' v.v x.b G) ∧
    (∀ w' v' G' bs K, Fr [] w w' → Slc encB 1 w' (SV.v v') bs G' → (∀ b ∈ G', hsz w ≤ b) → (∀ w'', At w0 F0 (stars (rfL d (setF s f ⟨bs, x.sure⟩) fv dv (fc.set f (v', x.sure)) es)) w'' → K w'') → BND (storev 1 w' (.pointer (some ⟨b, f * 2 + 0, none⟩)) (SV.v v')) K) ∧
    (∀ w' (k : Nat) K, Fr [] w w' → (∀ w'', At w0 F0 (stars (rfL d (setF s f ⟨x.b, k⟩) fv dv (fc.set f (v, k)) es)) w'' → K w'') → BND (storev 1 w' (.pointer (some ⟨b, f * 2 + 1, none⟩)) (.int .i64 (k : Int))) K) ∧
    (∀ w' v' G' bs (k : Nat) K, Fr [] w w' → Slc encB 1 w' (SV.v v') bs G' → (∀ b ∈ G', hsz w ≤ b) → (∀ w'', At w0 F0 (stars (rfL d (setF s f ⟨bs, k⟩) fv dv (fc.set f (v', k)) es)) w'' → K w'') → BND (storev 2 w' (.pointer (some ⟨b, f * 2, none⟩)) (.agg #[SV.v v', .int .i64 (k : Int)])) K) := by
  obtain ⟨T, c⟩ := h.cell (i := 0) rfl
  obtain ⟨F, ⟨_, _, _, ⟨hfl, hF⟩⟩, _⟩ := h.get 2 rfl
  obtain ⟨v, G, hv, sb, _⟩ := hF f x hx
  obtain ⟨Ff, sf, _⟩ := h.slc1 (i := 1) rfl
  have hlt : f < fc.length := (List.getElem?_eq_some_iff.1 hv).1
  obtain ⟨b, rfl, ia⟩ := sf.iaddr hlt .i64
  have same : ∀ {w'}, Fr [] w w' → ∀ {A}, Slc encG 2 w' fv fc A → A = [b] := fun fr A sA => by
    obtain ⟨b', rfl, ia'⟩ := sA.iaddr hlt .i64
    rw [ia] at ia'
    simp only [Option.some.injEq, Value.pointer.injEq, Addr.mk.injEq] at ia'
    rw [ia'.1]
  refine ⟨b, v, ia, fun w' fr => ?_, fun w' v' G' bs K fr sv hg hK => ?_, fun w' k K fr hK => ?_, fun w' v' G' bs k K fr sv hg hK => ?_⟩
  · have sf' := sf.fr fr (by simp)
    have c' := fr.some (by simp) c
    have q0 := sf'.load1 (i := f) (j := 0) hv (by omega)
    have q1 := sf'.load1 (i := f) (j := 1) hv (by omega)
    have ld : ∀ j u, (encG (v, x.sure))[j]? = some u → load1 w' (.pointer (some ⟨b, f * 2 + j, none⟩)) = some u := fun j u hu => by
      have hj : j < 2 := by have := (List.getElem?_eq_some_iff.1 hu).1; simpa [encG] using this
      rw [sf'.load1 (i := f) (j := j) hv hj, hu]
    obtain ⟨cap, cc, TT, _, hb, hc, hs, he⟩ := sf'.cells rfl
    refine ⟨load1_at c' rfl, ld 0 _ rfl, ld 1 _ rfl, ?_, G, sb.fr fr (by simp)⟩
    obtain ⟨b2, o2, i2, l2, _, _⟩ := sf'.arr.spot hv rfl .i64
    rw [ia] at i2
    cases i2
    exact l2
  · have ha := h.add fr (P := slc encB 1 (SV.v v') bs) sv hg
    obtain ⟨A, sA, upd⟩ := ha.upd 2 rfl
    replace sA : Slc encG 2 w' fv fc A := sA
    obtain rfl := same fr sA
    obtain ⟨w2, e2, s2, f2, _⟩ := sA.set1 (j := 0) (y := (v', x.sure)) (u := SV.v v') hv (by omega) (by intro m hm; rcases m with _ | _ | m <;> first | (simp [encG]; done) | omega) rfl rfl
    refine BND_step e2 (hK w2 (absorb (upd w2 [b] (slc encG 2 fv (fc.set f (v', x.sure))) s2 f2 (fun _ hb => .inl hb)) fun A B hA hB => ?_))
    obtain ⟨i1, ⟨G5, i2, i3⟩, i4, i5⟩ := hB
    replace hA : Slc encB 1 w2 (SV.v v') bs A := hA
    refine ⟨fun b hb => ?_, ⟨G5, i2, fun b hb => by simp [i3 b hb]⟩, i4.sub fun b hb => by simp [hb], (i5.sub fun b hb => by simp [hb]).set (x := ⟨bs, x.sure⟩) hA (fun b hb => by simp [hb])⟩
    rcases List.mem_append.1 hb with hb | hb
    · exact i1 b hb
    · exact hA.lt b hb
  · have ha := h.add fr (P := emp) ⟨trivial, rfl⟩ (A := []) (by simp)
    obtain ⟨A, sA, upd⟩ := ha.upd 2 rfl
    replace sA : Slc encG 2 w' fv fc A := sA
    obtain rfl := same fr sA
    obtain ⟨w2, e2, s2, f2, _⟩ := sA.set1 (j := 1) (y := (v, k)) (u := .int .i64 (k : Int)) hv (by omega) (by intro m hm; rcases m with _ | _ | m <;> first | (simp [encG]; done) | omega) rfl rfl
    refine BND_step e2 (hK w2 (absorb (upd w2 [b] (slc encG 2 fv (fc.set f (v, k))) s2 f2 (fun _ hb => .inl hb)) fun A B hA hB => ?_))
    obtain ⟨_, rfl⟩ := hA
    obtain ⟨i1, ⟨G5, i2, i3⟩, i4, i5⟩ := hB
    obtain ⟨v2, G2, hv2, sb2, g2⟩ := i5.2 f x hx
    rw [hv] at hv2
    cases hv2
    rw [List.append_nil]
    exact ⟨i1, ⟨G5, i2, i3⟩, i4, i5.set (x := ⟨x.b, k⟩) sb2 g2⟩
  · have ha := h.add fr (P := slc encB 1 (SV.v v') bs) sv hg
    obtain ⟨A, sA, upd⟩ := ha.upd 2 rfl
    replace sA : Slc encG 2 w' fv fc A := sA
    obtain rfl := same fr sA
    obtain ⟨w2, e2, s2, f2, _⟩ := sA.set (x := (v', k)) hlt rfl (encG_one _) (by omega)
    refine BND_step e2 (hK w2 (absorb (upd w2 [b] (slc encG 2 fv (fc.set f (v', k))) s2 f2 (fun _ hb => .inl hb)) fun A B hA hB => ?_))
    obtain ⟨i1, ⟨G5, i2, i3⟩, i4, i5⟩ := hB
    replace hA : Slc encB 1 w2 (SV.v v') bs A := hA
    refine ⟨fun b hb => ?_, ⟨G5, i2, fun b hb => by simp [i3 b hb]⟩, i4.sub fun b hb => by simp [hb], (i5.sub fun b hb => by simp [hb]).set (x := ⟨bs, k⟩) hA (fun b hb => by simp [hb])⟩
    rcases List.mem_append.1 hb with hb | hb
    · exact i1 b hb
    · exact hA.lt b hb
end
set_option linter.unusedSimpArgs false
set_option linter.unusedVariables false
set_option maxRecDepth 20000
set_option maxHeartbeats 4000000
attribute [local congr] BND_cg COND_cg GEF_cg
attribute [local irreducible] capl slicea load1 loadn iaddr iaddra faddr storev newslice binv lookv mupd mdel mlenv mentry mestore slicev slicev3 slices indexs indexav textv rangev nexts clearv shiftv eqaggv convi buildv pickv lens lenl unv nilchk extractv partn JOIN
section
variable {w0 w w' : World} {F0 : List Nat} {d : Nat} {s : Dk} {R : Value → World → Prop}
theorem rf_Read (h : At w0 F0 (rfHP d s) w) (hw : s.Wf) (hn : s.dirs.length < 1000000000) (n : ByteArray) (hR : ∀ w' v G, At w0 F0 (rfHP d s) w' → Slc encB 1 w' v (Disk.read s n).1 G → (∀ b ∈ G, hsz w ≤ b) → Fr [] w w' → R (.tuple #[v, .int .i64 (Disk.read s n).2]) w') : CALL PR F_tumbrelref06_Disk_Read [ptrTo d, .string n] w R := by
  obtain ⟨fv, dv, fc, es, hs⟩ := rf_open h
  refine C_tumbrelref06_Disk_Read ?_
  unfold M_tumbrelref06_Disk_Read
  unfold Disk.read at hR
  obtain ⟨T, c⟩ := hs.cell (i := 0) rfl
  cases hg : s.gone with
  | true =>
    unfold rfC at c
    rw [hg] at hR c
    unfold ptrTo
    (repeat refine gg ?_)
    exact hR w _ [] h (Slc.nil _ _ _) (by simp) (Fr.refl _ _)
  | false =>
    rw [hg] at hR
    unfold rfC at c
    rw [hg] at c
    unfold ptrTo
    (repeat refine gg ?_)
    refine rf_find h hw hn n fun w1 f1 => ?_
    cases hf : s.find n with
    | none =>
      rw [hf] at hR
      have e1 : numOf (none : Option Nat) = -1 := rfl
      rw [e1]
      (repeat refine gg ?_)
      exact hR w1 _ [] (h.fr0 f1) (Slc.nil _ _ _) (by simp) f1
    | some f =>
      rw [hf] at hR
      have e1 : numOf (some f) = (f : Int) := rfl
      rw [e1]
      have hx := wf_pick hw hf
      obtain ⟨b, v, ia, rd, _⟩ := rf_spot hs hx
      (repeat refine gg ?_)
      refine newnil_step encB fun t w2 s2 f2 z2 => ?_
      obtain ⟨l1, l2, _, _, Gb, sb⟩ := rd w2 (f1.trans' f2)
      have hsm := hw.small _ (List.mem_of_getElem? hx)
      have hrm := hw.room
      (repeat refine gg ?_)
      refine APPEND_slc s2 (sb.loads encB_len) encB_len encB_one rfl (by simp; omega) (by simp; omega) fun v3 w3 G3 s3 f3 sub3 => ?_
      rw [List.nil_append] at s3
      have f03 : Fr [] w w3 := (f1.trans' f2).trans f3 fun b hb => .inr (by have := f1.grow; simp at hb; omega)
      (repeat refine gg ?_)
      refine hR w3 v3 G3 (h.fr0 f03) s3 (fun b hb => ?_) f03
      have := f1.grow
      rcases sub3 b hb with hq | hq
      · simp at hq; omega
      · omega
theorem rf_Names (h : At w0 F0 (rfHP d s) w) (hw : s.Wf) (hn : s.dirs.length < 1000000000) (hR : ∀ w' v G, At w0 F0 (rfHP d s) w' → Slc encN 1 w' v (s.now.map (·.1)) G → (∀ b ∈ G, hsz w ≤ b) → Fr [] w w' → R v w') : CALL PR F_tumbrelref06_Disk_Names [ptrTo d] w R := by
  obtain ⟨fv, dv, fc, es, hs⟩ := rf_open h
  refine C_tumbrelref06_Disk_Names ?_
  unfold M_tumbrelref06_Disk_Names
  have h60 := hw.many _ (now_mem hw)
  refine newnil_step encN fun t w1 s1 f1 z1 => ?_
  obtain ⟨F, ⟨_, _, ⟨_, hE⟩, _⟩, _⟩ := hs.get 2 rfl
  obtain ⟨e0, Ge, he0, se0, _⟩ := hE _ _ (dk_now_get hw.ne)
  refine rf_now (hs.fr0 f1) hw.ne hn fun e _ he _ => ?_
  rw [he0] at he
  cases he
  have f2 := f1.trans' (Fr.drew [] w1)
  have se := se0.fr f2 (by simp)
  refine loop_up2 (o := t) 0 s.now.length (fun o i w' => ∃ H, Slc encN 1 w' o ((s.now.take i).map (·.1)) H ∧ (∀ b ∈ H, hsz w ≤ b) ∧ Fr [] w w' ∧ Slc encE 2 w' e0.v s.now Ge ∧ ∀ b ∈ Ge, b ∉ H) ⟨[hsz w], s1.fr (Fr.drew [] w1) (by simp), by simp, f2, se, fun b hb hb' => by have := se0.lt b hb; simp at hb'; omega⟩ (by omega) ?_
  rintro o i w3 - hi ⟨H, s3, h3, f3, se3, hd⟩ J m hJ
  by_cases hlt : i < s.now.length
  · have hx := List.getElem?_eq_getElem hlt
    generalize s.now[i] = x at hx
    obtain ⟨b, o2, ia, _, _, l1⟩ := se3.arr.spot hx rfl .i64
    (repeat (first | refine BND_step se3.len ?_ | (apply BND_step; exact (l1 (w' := w3) rfl (j := 0) rfl)) | refine gg ?_))
    refine push_step (enc := encN) (x := x.1) s3 encN_len encN_one rfl rfl (by omega) (by simp; omega) fun v4 w4 G4 s4 g4 f4 => ?_
    (repeat refine gg ?_)
    refine hJ _ _ hlt ⟨G4, ?_, fun b hb => ?_, f3.trans f4 fun b hb => .inr (h3 b hb), se3.fr f4 hd, fun b hb hb' => ?_⟩
    · rw [List.take_add_one, hx, List.map_append]; exact s4
    · rcases g4 b hb with hq | hq
      · exact h3 b hq
      · have := f3.grow; omega
    · rcases g4 b hb' with hq | hq
      · exact hd b hb hq
      · have := se3.lt b hb; omega
  · (repeat (first | refine BND_step se3.len ?_ | refine gg ?_))
    rw [List.take_of_length_le (by omega)] at s3
    exact hR w3 o H (h.fr0 f3) s3 h3 f3
theorem rf_Sync (h : At w0 F0 (rfHP d s) w) (hw : s.Wf) (hn : s.dirs.length < 1000000000) (n : ByteArray) (hR : ∀ w', At w0 F0 (rfHP d (sync s n).1) w' → R (.int .i64 (sync s n).2) w') : CALL PR F_tumbrelref06_Disk_Sync [ptrTo d, .string n] w R := by
  refine C_tumbrelref06_Disk_Sync ?_
  unfold M_tumbrelref06_Disk_Sync
  refine rf_find h hw hn n fun w1 f1 => ?_
  have h1 := h.fr0 f1
  (repeat refine gg ?_)
  refine join_v (Q := fun v w' => v = .int .i64 (there s n) ∧ w' = w1) (fun k hk => ?_) ?_
  · rw [there_num] at hk
    by_cases hf : numOf (s.find n) < 0
    · (repeat refine gg ?_)
      exact hk _ _ ⟨by rw [if_pos hf], rfl⟩
    · (repeat refine gg ?_)
      exact hk _ _ ⟨by rw [if_neg hf], rfl⟩
  rintro _ _ ⟨rfl, rfl⟩
  refine rf_can h1 _ hw.burn fun w3 h3 => ?_
  unfold sync at hR
  by_cases hc : (can s (there s n)).2 = 0
  · simp only [hc, if_true] at hR
    rw [hc]
    obtain ⟨f, hf⟩ : ∃ f, s.find n = some f := by
      have h0 := can_zero hc
      rw [there_num] at h0
      cases hq : s.find n with
      | none => rw [hq] at h0; simp [numOf] at h0
      | some f => exact ⟨f, rfl⟩
    rw [hf] at hR ⊢
    have e1 : numOf (some f) = (f : Int) := rfl
    rw [e1]
    simp only [Option.getD_some] at hR
    obtain ⟨k1, k2, k3⟩ := can_keep s (there s n)
    have hx := wf_pick hw hf
    generalize (can s (there s n)).1 = s1 at *
    (repeat refine gg ?_)
    refine join_w (fun w' => At w0 F0 (rfHP d (setF s1 f { fileAt s f with sure := (fileAt s f).b.length })) w') (fun K hK => ?_) (fun w' hw' => hR w' hw')
    obtain ⟨fv, dv, fc, es, hs⟩ := rf_open h3
    obtain ⟨b, v, ia, rd, _, st, _⟩ := rf_spot hs (f := f) (by rw [k1]; exact hx)
    obtain ⟨l1, l2, _, _, Gb, sb⟩ := rd w3.drew (Fr.drew _ _)
    unfold ptrTo
    (repeat (first | refine BND_step sb.len ?_ | refine gg ?_))
    refine st w3.drew _ _ (Fr.drew _ _) fun w5 h5 => ?_
    (repeat refine gg ?_)
    exact hK _ (rf_shut h5)
  · simp only [hc, if_false] at hR
    (repeat refine gg ?_)
    refine join_w (fun w' => At w0 F0 (rfHP d (can s (there s n)).1) w') (fun K hK => ?_) (fun w' hw' => hR w' hw')
    (repeat refine gg ?_)
    exact hK _ h3
end
end Go.Proofs.YtmefbneoljpbgaaGreatDoor
end

section
namespace Go.Proofs.YtmefbneoljpbgaaGreatDoor
open Go.Den Go.Disk
theorem heldG_le {s : Dk} (hw : s.Wf) (i : Nat) : heldG s i ≤ 1048576 := by
  unfold heldG
  split
  · unfold fileAt
    rw [List.getD_eq_getElem?_getD]
    cases h : s.files[i]? with
    | none => simp
    | some x =>
      have := hw.small _ (List.mem_of_getElem? h)
      have := hw.room
      simp; omega
  · omega
theorem sumTo_small {s : Dk} (hw : s.Wf) : ∀ i, sumTo i (heldG s) ≤ i * 1048576
  | 0 => by simp [sumTo]
  | i + 1 => by
    rw [sumTo_succ]
    have := sumTo_small hw i
    have := heldG_le hw i
    rw [Nat.add_mul]; omega
set_option linter.unusedSimpArgs false
set_option linter.unusedVariables false
set_option maxRecDepth 20000
set_option maxHeartbeats 4000000
attribute [local congr] BND_cg COND_cg GEF_cg
attribute [local irreducible] capl slicea load1 loadn iaddr iaddra faddr storev newslice binv lookv mupd mdel mlenv mentry mestore slicev slicev3 slices indexs indexav textv rangev nexts clearv shiftv eqaggv convi buildv pickv lens lenl unv nilchk extractv partn JOIN
section
variable {w0 w w' : World} {F0 : List Nat} {d : Nat} {s : Dk} {R : Value → World → Prop}
theorem rf_Held (h : At w0 F0 (rfHP d s) w) (hw : s.Wf) (hn : s.dirs.length < 1000000000) (hn2 : s.files.length < 1000000000) (hR : ∀ w', Fr [] w w' → R (.int .i64 (held s : Nat)) w') : CALL PR F_tumbrelref06_Disk_Held [ptrTo d] w R := by
  obtain ⟨fv, dv, fc, es, hs⟩ := rf_open h
  refine C_tumbrelref06_Disk_Held ?_
  unfold M_tumbrelref06_Disk_Held
  obtain ⟨T, c⟩ := hs.cell (i := 0) rfl
  obtain ⟨F, ⟨_, ⟨Gd, sd, _⟩, ⟨hel, hE⟩, ⟨hfl, hF⟩⟩, _⟩ := hs.get 2 rfl
  obtain ⟨Ff, sf, _⟩ := hs.slc1 (i := 1) rfl
  have lf := sf.len
  have ldl := sd.len
  rw [hfl] at lf
  rw [hel] at ldl
  unfold ptrTo
  refine loop_up2 (o := .int .i64 0) 0 s.files.length (fun o i w' => o = .int .i64 ((sumTo i (heldG s) : Nat) : Int) ∧ w' = w) ⟨rfl, rfl⟩ (by omega) ?_
  rintro o f w1 - hi ⟨rfl, rfl⟩ J m hJ
  have hsmall := sumTo_small hw f
  by_cases hlt : f < s.files.length
  · have hx := List.getElem?_eq_getElem hlt
    generalize s.files[f] = x at hx
    have hfx : fileAt s f = x := by unfold fileAt; rw [List.getD_eq_getElem?_getD, hx]; rfl
    have hxs := hw.small _ (List.mem_of_getElem? hx)
    have hrm := hw.room
    obtain ⟨v, Gb, hv, sb, _⟩ := hF f x hx
    (repeat refine gg ?_)
    refine loop_up2 (o := .bool false) 0 s.dirs.length (fun o k w' => o = .bool ((s.dirs.take k).any fun l => l.any fun y => decide (y.2 = f)) ∧ w' = w1) ⟨rfl, rfl⟩ (by omega) ?_
    rintro o k w2 - hk ⟨rfl, rfl⟩ J2 m2 hJ2
    by_cases hlt2 : k < s.dirs.length
    · have hl := List.getElem?_eq_getElem hlt2
      have hlm := List.getElem_mem hlt2
      generalize s.dirs[k] = l at hl hlm
      obtain ⟨e, Ge, he, se, _⟩ := hE k l hl
      obtain ⟨b1, o1, i1, _, _, l1⟩ := sd.arr.spot he rfl .i64
      have h60 := hw.many _ hlm
      (repeat refine gg ?_)
      refine loop_up2 (o := .bool ((s.dirs.take k).any fun l => l.any fun y => decide (y.2 = f))) 0 l.length (fun o a w' => o = .bool (((s.dirs.take k).any fun l => l.any fun y => decide (y.2 = f)) || (l.take a).any fun y => decide (y.2 = f)) ∧ w' = w2) ⟨by simp, rfl⟩ (by omega) ?_
      rintro o a w3 - ha ⟨rfl, rfl⟩ J3 m3 hJ3
      by_cases hlt3 : a < l.length
      · have hy := List.getElem?_eq_getElem hlt3
        generalize l[a] = y at hy
        obtain ⟨b2, o2, i2, _, _, l2⟩ := se.arr.spot hy rfl .i64
        have hst : (((s.dirs.take k).any fun l => l.any fun y => decide (y.2 = f)) || (l.take (a + 1)).any (fun y => decide (y.2 = f))) = ((((s.dirs.take k).any fun l => l.any fun y => decide (y.2 = f)) || (l.take a).any fun y => decide (y.2 = f)) || decide (y.2 = f)) := by
          rw [List.take_add_one, hy, List.any_append]; simp [Bool.or_assoc]
        cases hp : (((s.dirs.take k).any fun l => l.any fun y => decide (y.2 = f)) || (l.take a).any fun y => decide (y.2 = f)) with
        | true =>
          rw [hp] at hst hJ3
          (repeat (first | (apply BND_step; exact (l1 (w' := w3) rfl (j := 0) rfl)) | refine BND_step se.len ?_ | refine gg ?_))
          exact hJ3 (.bool true) _ hlt3 ⟨by rw [hst]; rfl, rfl⟩
        | false =>
          rw [hp, Bool.false_or] at hst
          rw [hp] at hJ3
          (repeat (first | (apply BND_step; exact (l1 (w' := w3) rfl (j := 0) rfl)) | refine BND_step se.len ?_ | (apply BND_step; exact (l2 (w' := w3) rfl (j := 1) rfl)) | refine gg ?_))
          exact hJ3 (.bool (decide ((y.2 : Int) = (f : Int)))) _ hlt3 ⟨by rw [hst]; congr 1; simp [Int.ofNat_inj], rfl⟩
      · (repeat (first | (apply BND_step; exact (l1 (w' := w3) rfl (j := 0) rfl)) | refine BND_step se.len ?_ | refine gg ?_))
        refine hJ2 _ _ hlt2 ⟨?_, rfl⟩
        rw [List.take_of_length_le (by omega : l.length ≤ a), List.take_add_one, hl, List.any_append]
        simp
    · (repeat refine gg ?_)
      rw [List.take_of_length_le (by omega)]
      have hst : sumTo (f + 1) (heldG s) = sumTo f (heldG s) + (if (s.dirs.any fun l => l.any fun y => decide (y.2 = f)) = true then x.b.length else 0) := by
        rw [sumTo_succ]; unfold heldG isHeld; rw [hfx]
      cases hp : s.dirs.any fun l => l.any fun y => decide (y.2 = f) with
      | true =>
        rw [hp] at hst
        simp only [if_true] at hst
        refine join_v (Q := fun v w' => v = .int .i64 ((sumTo (f + 1) (heldG s) : Nat) : Int) ∧ w' = w2) (fun k hk => ?_) ?_
        · obtain ⟨b1, o1, i1, _, _, l1⟩ := sf.arr.spot hv rfl .i64
          (repeat (first | (apply BND_step; exact (l1 (w' := w2) rfl (j := 0) rfl)) | refine BND_step sb.len ?_ | refine BND_step (addn_ (n := sumTo f (heldG s)) (m := x.b.length) (by omega)) ?_ | refine gg ?_))
          exact hk _ _ ⟨by rw [hst], rfl⟩
        · rintro v w' ⟨rfl, rfl⟩
          (repeat refine gg ?_)
          exact hJ _ _ hlt ⟨rfl, rfl⟩
      | false =>
        rw [hp] at hst
        simp only [Bool.false_eq_true, if_false, Nat.add_zero] at hst
        refine join_v (Q := fun v w' => v = .int .i64 ((sumTo (f + 1) (heldG s) : Nat) : Int) ∧ w' = w2) (fun k hk => ?_) ?_
        · (repeat refine gg ?_)
          exact hk _ _ ⟨by rw [hst], rfl⟩
        · rintro v w' ⟨rfl, rfl⟩
          (repeat refine gg ?_)
          exact hJ _ _ hlt ⟨rfl, rfl⟩
  · obtain rfl : f = s.files.length := by omega
    (repeat refine gg ?_)
    exact hR _ (Fr.refl _ _)
theorem rf_Append (h : At w0 F0 (rfHP d s) w) (hw : s.Wf) (hn : s.dirs.length < 1000000000) (hn2 : s.files.length < 1000000000) (n : ByteArray) {u : Value} {bs : List UInt8} (hbs : bs.length < 1000000000) (hul : lenl u = some (.int .i64 bs.length))
    (hu : ∀ w', Fr F0 w0 w' → cellsOfArg w' 1 u = some (flat encB bs, bs.length)) (hR : ∀ w', At w0 F0 (rfHP d (append s n bs).1) w' → R (.int .i64 (append s n bs).2) w') : CALL PR F_tumbrelref06_Disk_Append [ptrTo d, .string n, u] w R := by
  refine C_tumbrelref06_Disk_Append ?_
  unfold M_tumbrelref06_Disk_Append
  refine rf_find h hw hn n fun w1 f1 => ?_
  have h1 := h.fr0 f1
  have hsmall := sumTo_small hw s.files.length
  rw [← held_sum] at hsmall
  have hrm := hw.room
  (repeat refine gg ?_)
  refine join_v (Q := fun v w' => v = .int .i64 (appendE s n bs.length) ∧ Fr [] w1 w') (fun k hk => ?_) ?_
  · unfold appendE at hk
    cases hf : s.find n with
    | none =>
      rw [hf] at hk
      have e1 : numOf (none : Option Nat) = -1 := rfl
      rw [e1]
      (repeat refine gg ?_)
      exact hk _ _ ⟨rfl, Fr.refl _ _⟩
    | some f =>
      rw [hf] at hk
      simp only [Option.isSome_some, if_true] at hk
      have e1 : numOf (some f) = (f : Int) := rfl
      rw [e1]
      obtain ⟨fv, dv, fc, es, hs⟩ := rf_open h1
      obtain ⟨T, c⟩ := hs.cell (i := 0) rfl
      have cd : blk w1.drew d = some (.cells (rfC s fv dv).toArray T (0, 0)) := c
      unfold ptrTo
      (repeat refine gg ?_)
      refine ⟨fun _ w' => blk w' d = some (.cells (rfC s fv dv).toArray T (0, 0)), cd, ?_⟩
      (repeat refine gg ?_)
      refine rf_Held (h1.fr0 (Fr.drew _ _)) hw hn hn2 fun w9 f9 => ?_
      refine ⟨f9.some (by simp) cd, ?_⟩
      (repeat (first | refine BND_step (addn_ (n := held s) (m := bs.length) (by omega)) ?_ | refine gg ?_))
      have f19 := (Fr.drew [] w1).trans' f9
      by_cases hq : s.room < ((held s + bs.length : Nat) : Int)
      · rw [if_pos hq] at hk
        (repeat refine gg ?_)
        refine join_v (Q := fun v w' => v = .int .i64 4 ∧ w' = w9) (fun k2 hk2 => ?_) ?_
        · (repeat refine gg ?_)
          exact hk2 _ _ ⟨rfl, rfl⟩
        · rintro _ _ ⟨rfl, rfl⟩
          exact hk _ _ ⟨rfl, f19⟩
      · rw [if_neg hq] at hk
        (repeat refine gg ?_)
        refine join_v (Q := fun v w' => v = .int .i64 0 ∧ w' = w9) (fun k2 hk2 => ?_) ?_
        · (repeat refine gg ?_)
          exact hk2 _ _ ⟨rfl, rfl⟩
        · rintro _ _ ⟨rfl, rfl⟩
          exact hk _ _ ⟨rfl, f19⟩
  rintro _ w2 ⟨rfl, f2⟩
  refine rf_can (h1.fr0 f2) _ hw.burn fun w3 h3 => ?_
  unfold append at hR
  by_cases hc : (can s (appendE s n bs.length)).2 = 0
  · simp only [hc, if_true] at hR
    rw [hc]
    obtain ⟨f, hf⟩ : ∃ f, s.find n = some f := by
      have h0 := can_zero hc
      unfold appendE at h0
      cases hq : s.find n with
      | none => rw [hq] at h0; simp at h0
      | some f => exact ⟨f, rfl⟩
    rw [hf] at hR ⊢
    have e1 : numOf (some f) = (f : Int) := rfl
    rw [e1]
    simp only [Option.getD_some] at hR
    obtain ⟨k1, k2, k3⟩ := can_keep s (appendE s n bs.length)
    have hx := wf_pick hw hf
    have hsm := hw.small _ (List.mem_of_getElem? hx)
    generalize (can s (appendE s n bs.length)).1 = s1 at *
    (repeat refine gg ?_)
    refine join_w (fun w' => At w0 F0 (rfHP d (setF s1 f { fileAt s f with b := (fileAt s f).b ++ bs })) w') (fun K hK => ?_) (fun w' hw' => hR w' hw')
    refine cyes rfl ?_
    (repeat refine gg ?_)
    obtain ⟨fv, dv, fc, es, hs⟩ := rf_open h3
    obtain ⟨b, v, ia, rd, st, _⟩ := rf_spot hs (f := f) (by rw [k1]; exact hx)
    have e3 : hsz w3.drew = hsz w3 := rfl
    refine ⟨fun _ w' => Fr [] w3.drew w', Fr.refl _ _, Fr.refl _ _, Fr.refl _ _, ?_⟩
    have rd' : ∀ w', Fr [] w3.drew w' → _ := fun w' hw => rd w' ((Fr.drew [] w3).trans' hw)
    unfold ptrTo
    (repeat (first | refine gg ?_ | refine FLT.mk _ (fun _ hw_ => (rd' _ hw_).1) ?_))
    refine FLT.mk _ (fun _ hw_ => (rd' _ hw_).2.1) ?_
    refine newnil_step encB fun t w5 s5 f5 z5 => ?_
    refine ⟨f5, f5, f5, ?_⟩
    obtain ⟨_, _, _, _, Gb, sb⟩ := rd' w5 f5
    refine APPEND_slc s5 (sb.loads encB_len) encB_len encB_one rfl (by simp; omega) (by simp; omega) fun v6 w6 G6 s6 f6 sub6 => ?_
    rw [List.nil_append] at s6
    have f56 := f5.trans f6 fun b hb => .inr (by simp at hb; omega)
    have g6 : ∀ b ∈ G6, hsz w3 ≤ b := fun b hb => by
      rcases sub6 b hb with hq | hq
      · simp at hq; omega
      · omega
    refine ⟨f56, ?_⟩
    have fw6 : Fr F0 w0 w6 := (h3.frame.trans' (Fr.drew [] w3).nil).trans' f56.nil
    refine APPEND_slc s6 (hu w6 fw6) encB_len encB_one rfl (by omega) (by omega) fun v7 w7 G7 s7 f7 sub7 => ?_
    have f57 := f56.trans f7 fun b hb => .inr (g6 b hb)
    refine ⟨f57, ?_⟩
    obtain ⟨e7, rfl⟩ := slc_sv s7
    (repeat refine gg ?_)
    refine st w7 e7 G7 _ _ ((Fr.drew [] w3).trans' f57) s7 (fun b hb => ?_) fun w8 h8 => hK _ (rf_shut h8)
    have := f56.grow
    rcases sub7 b hb with hq | hq
    · exact g6 b hq
    · omega
  · simp only [hc, if_false] at hR
    (repeat refine gg ?_)
    refine join_w (fun w' => At w0 F0 (rfHP d (can s (appendE s n bs.length)).1) w') (fun K hK => ?_) (fun w' hw' => hR w' hw')
    (repeat refine gg ?_)
    exact hK _ h3
theorem rf_Cut (h : At w0 F0 (rfHP d s) w) (hw : s.Wf) (hn : s.dirs.length < 1000000000) (n : ByteArray) (k : Int) (hR : ∀ w', At w0 F0 (rfHP d (cut s n k).1) w' → R (.int .i64 (cut s n k).2) w') : CALL PR F_tumbrelref06_Disk_Cut [ptrTo d, .string n, .int .i64 k] w R := by
  refine C_tumbrelref06_Disk_Cut ?_
  unfold M_tumbrelref06_Disk_Cut
  refine rf_find h hw hn n fun w1 f1 => ?_
  have h1 := h.fr0 f1
  (repeat refine gg ?_)
  refine join_v (Q := fun v w' => v = .int .i64 (cutE s n k) ∧ w' = w1) (fun q hk => ?_) ?_
  · unfold cutE at hk
    cases hf : s.find n with
    | none =>
      rw [hf] at hk
      have e1 : numOf (none : Option Nat) = -1 := rfl
      rw [e1]
      (repeat refine gg ?_)
      exact hk _ _ ⟨rfl, rfl⟩
    | some f =>
      rw [hf] at hk
      simp only at hk
      have e1 : numOf (some f) = (f : Int) := rfl
      rw [e1]
      have hx := wf_pick hw hf
      obtain ⟨fv, dv, fc, es, hs⟩ := rf_open h1
      obtain ⟨b, v, ia, rd, _⟩ := rf_spot hs hx
      obtain ⟨l1, l2, _, _, Gb, sb⟩ := rd w1 (Fr.refl _ _)
      unfold ptrTo
      by_cases q1 : k < 0
      · rw [if_pos (.inl q1)] at hk
        (repeat refine gg ?_)
        refine join_v (Q := fun v w' => v = .int .i64 1 ∧ w' = w1) (fun k2 hk2 => ?_) ?_
        · (repeat refine gg ?_)
          exact hk2 _ _ ⟨rfl, rfl⟩
        · rintro _ _ ⟨rfl, rfl⟩
          exact hk _ _ ⟨rfl, rfl⟩
      · by_cases q2 : ((fileAt s f).b.length : Int) < k
        · rw [if_pos (.inr q2)] at hk
          (repeat (first | refine BND_step sb.len ?_ | refine gg ?_))
          refine join_v (Q := fun v w' => v = .int .i64 1 ∧ w' = w1) (fun k2 hk2 => ?_) ?_
          · (repeat refine gg ?_)
            exact hk2 _ _ ⟨rfl, rfl⟩
          · rintro _ _ ⟨rfl, rfl⟩
            exact hk _ _ ⟨rfl, rfl⟩
        · rw [if_neg (by omega)] at hk
          (repeat (first | refine BND_step sb.len ?_ | refine gg ?_))
          refine join_v (Q := fun v w' => v = .int .i64 0 ∧ w' = w1) (fun k2 hk2 => ?_) ?_
          · (repeat refine gg ?_)
            exact hk2 _ _ ⟨rfl, rfl⟩
          · rintro _ _ ⟨rfl, rfl⟩
            exact hk _ _ ⟨rfl, rfl⟩
  rintro _ _ ⟨rfl, rfl⟩
  refine rf_can h1 _ hw.burn fun w3 h3 => ?_
  unfold cut at hR
  by_cases hc : (can s (cutE s n k)).2 = 0
  · simp only [hc, if_true] at hR
    rw [hc]
    have h0 := can_zero hc
    unfold cutE at h0
    obtain ⟨f, hf⟩ : ∃ f, s.find n = some f := by
      cases hq : s.find n with
      | none => rw [hq] at h0; simp at h0
      | some f => exact ⟨f, rfl⟩
    rw [hf] at hR h0 ⊢
    have e1 : numOf (some f) = (f : Int) := rfl
    rw [e1]
    simp only [Option.getD_some] at hR h0
    have hk : 0 ≤ k ∧ k ≤ (fileAt s f).b.length := by
      by_cases hh : k < 0 ∨ ((fileAt s f).b.length : Int) < k
      · rw [if_pos hh] at h0; omega
      · omega
    obtain ⟨k1, k2, k3⟩ := can_keep s (cutE s n k)
    have hx := wf_pick hw hf
    have hsm := hw.small _ (List.mem_of_getElem? hx)
    have hrm := hw.room
    generalize (can s (cutE s n k)).1 = s1 at *
    obtain ⟨kn, rfl⟩ : ∃ kn : Nat, k = (kn : Int) := ⟨k.toNat, by omega⟩
    simp only [Int.toNat_natCast] at hR
    generalize fileAt s f = x at *
    (repeat refine gg ?_)
    refine join_w (fun w' => At w0 F0 (rfHP d (setF s1 f ⟨x.b.take kn, min x.sure kn⟩)) w') (fun K hK => ?_) (fun w' hw' => hR w' hw')
    refine cyes rfl ?_
    (repeat refine gg ?_)
    obtain ⟨fv, dv, fc, es, hs⟩ := rf_open h3
    obtain ⟨b, v, ia, rd, st, _⟩ := rf_spot hs (f := f) (x := x) (by rw [k1]; exact hx)
    have e3 : hsz w3.drew = hsz w3 := rfl
    refine ⟨fun _ w' => Fr [] w3.drew w', Fr.refl _ _, Fr.refl _ _, Fr.refl _ _, ?_⟩
    have rd' : ∀ w', Fr [] w3.drew w' → _ := fun w' hw => rd w' ((Fr.drew [] w3).trans' hw)
    obtain ⟨_, _, _, _, Gb, sb⟩ := rd' w3.drew (Fr.refl _ _)
    obtain ⟨va, ea, ca⟩ := sb.upto encB_len (n := kn) (by omega) .i64
    unfold ptrTo
    (repeat (first | refine gg ?_ | refine FLT.mk _ (fun _ hw_ => (rd' _ hw_).1) ?_))
    refine FLT.mk _ (fun _ hw_ => (rd' _ hw_).2.1) ?_
    (repeat refine gg ?_)
    refine newnil_step encB fun t w5 s5 f5 z5 => ?_
    refine ⟨f5, f5, f5, ?_⟩
    refine APPEND_slc s5 (ca w5 fun b hb => f5.keep b (sb.lt b hb) (by simp)) encB_len encB_one rfl (by simp; omega) (by simp; omega) fun v6 w6 G6 s6 f6 sub6 => ?_
    rw [List.nil_append] at s6
    have f56 := f5.trans f6 fun b hb => .inr (by simp at hb; omega)
    have g6 : ∀ b ∈ G6, hsz w3 ≤ b := fun b hb => by
      rcases sub6 b hb with hq | hq
      · simp at hq; omega
      · omega
    refine ⟨f56, ?_⟩
    obtain ⟨e6, rfl⟩ := slc_sv s6
    (repeat refine gg ?_)
    refine st w6 e6 G6 _ _ ((Fr.drew [] w3).trans' f56) s6 g6 fun w7 h7 => ?_
    have hfl : f < s1.files.length := by rw [k1]; exact (List.getElem?_eq_some_iff.1 hx).1
    obtain ⟨b2, v2, ia2, rd2, _, st2, _⟩ := rf_spot h7 (f := f) (x := ⟨x.b.take kn, x.sure⟩) (by show (s1.files.set f _)[f]? = _; rw [List.getElem?_set_self hfl])
    obtain ⟨l1, l2, l3, _⟩ := rd2 w7.drew (Fr.drew _ _)
    have em : min2v (.int .i64 (x.sure : Int)) (.int .i64 (kn : Int)) = some (.int .i64 ((min x.sure kn : Nat) : Int)) := by
      have : min2v (.int .i64 (x.sure : Int)) (.int .i64 (kn : Int)) = some (.int .i64 (if (kn : Int) < (x.sure : Int) then (kn : Int) else (x.sure : Int))) := rfl
      rw [this]
      congr 2
      split <;> omega
    (repeat refine gg ?_)
    refine st2 w7.drew _ _ (Fr.drew _ _) fun w8 h8 => ?_
    (repeat refine gg ?_)
    refine hK _ (rf_shut (fv := fv) (dv := dv) (fc := (fc.set f (e6, x.sure)).set f (v2, min x.sure kn)) (es := es) ?_)
    have e : setF (setF s1 f ⟨x.b.take kn, x.sure⟩) f ⟨x.b.take kn, min x.sure kn⟩ = setF s1 f ⟨x.b.take kn, min x.sure kn⟩ := by unfold setF; simp
    rw [← e]; exact h8
  · simp only [hc, if_false] at hR
    (repeat refine gg ?_)
    refine join_w (fun w' => At w0 F0 (rfHP d (can s (cutE s n k)).1) w') (fun K hK => ?_) (fun w' hw' => hR w' hw')
    (repeat refine gg ?_)
    exact hK _ h3
end
end Go.Proofs.YtmefbneoljpbgaaGreatDoor
end

section
namespace Go.Proofs.YtmefbneoljpbgaaGreatDoor
open Go.Den Go.Disk
theorem crash_pick {s : Dk} (hp : 0 < s.dirs.length) (op : Int) : ∃ j l, s.dirs[j]? = some l ∧ s.dirs.getD (min op.toNat (s.dirs.length - 1)) [] = l ∧ j < s.dirs.length ∧ max2v (.int .i64 op) (.int .i64 0) = some (.int .i64 (if op < 0 then 0 else op)) ∧
    min2v (.int .i64 (if op < 0 then 0 else op)) (.int .i64 ((s.dirs.length - 1 : Nat) : Int)) = some (.int .i64 ((j : Nat) : Int)) := by
  have hj : min op.toNat (s.dirs.length - 1) < s.dirs.length := by omega
  refine ⟨min op.toNat (s.dirs.length - 1), _, List.getElem?_eq_getElem hj, by rw [List.getD_eq_getElem?_getD, List.getElem?_eq_getElem hj]; rfl, hj, rfl, ?_⟩
  show some (Value.int .i64 (if ((s.dirs.length - 1 : Nat) : Int) < (if op < 0 then 0 else op) then ((s.dirs.length - 1 : Nat) : Int) else (if op < 0 then 0 else op))) = _
  congr 2
  split <;> split <;> omega
theorem tail_min {x : Fl} {tails : List Int} {i : Nat} {t : Int} (hx : x.sure ≤ x.b.length) (htx : tails[i]? = some t) :
    max2v (.int .i64 t) (.int .i64 0) = some (.int .i64 (if t < 0 then 0 else t)) ∧ min2v (.int .i64 (if t < 0 then 0 else t)) (.int .i64 ((x.b.length - x.sure : Nat) : Int)) = some (.int .i64 ((tailOf x tails i : Nat) : Int)) := by
  refine ⟨rfl, ?_⟩
  show some (Value.int .i64 (if ((x.b.length - x.sure : Nat) : Int) < (if t < 0 then 0 else t) then ((x.b.length - x.sure : Nat) : Int) else (if t < 0 then 0 else t))) = _
  unfold tailOf
  rw [htx]
  congr 2
  simp only
  split <;> split <;> omega
set_option linter.unusedSimpArgs false
set_option linter.unusedVariables false
set_option maxRecDepth 20000
set_option maxHeartbeats 4000000
attribute [local congr] BND_cg COND_cg GEF_cg
attribute [local irreducible] capl slicea load1 loadn iaddr iaddra faddr storev newslice binv lookv mupd mdel mlenv mentry mestore slicev slicev3 slices indexs indexav textv rangev nexts clearv shiftv eqaggv convi buildv pickv lens lenl unv nilchk extractv partn JOIN
section
variable {w0 w w' : World} {F0 : List Nat} {d : Nat} {s : Dk} {R : Value → World → Prop}
theorem rf_Crash (h : At w0 F0 (rfHP d s) w) (hw : s.Wf) (hn : s.dirs.length < 1000000000) (op : Int) {tv : Value} {tails : List Int} (hta : ∀ w', Fr F0 w0 w' → Arr encI 1 w' tv tails) (hR : ∀ w', At w0 F0 (rfHP d (crash s op tails)) w' → R (.tuple #[]) w') : CALL PR F_tumbrelref06_Disk_Crash [ptrTo d, .int .i64 op, tv] w R := by
  obtain ⟨fv, dv, fc, es, hs⟩ := rf_open h
  refine C_tumbrelref06_Disk_Crash ?_
  unfold M_tumbrelref06_Disk_Crash
  obtain ⟨T, c⟩ := hs.cell (i := 0) rfl
  obtain ⟨F, ⟨_, ⟨Gd, sd, _⟩, ⟨hel, hE⟩, _⟩, _⟩ := hs.get 2 rfl
  have ldl := sd.len
  rw [hel] at ldl
  obtain ⟨j, l, hl, hld, hjl, em1, em2⟩ := crash_pick (List.length_pos_iff.2 hw.ne) op
  have hlm : l ∈ s.dirs := List.mem_of_getElem? hl
  unfold crash at hR
  rw [hld] at hR
  obtain ⟨e, Ge0, he, se0, _⟩ := hE j l hl
  obtain ⟨b1, o1, i1, _, _, l1⟩ := sd.arr.spot he rfl .i64
  unfold ptrTo
  (repeat (first | refine BND_step (subn_ (n := s.dirs.length) (m := 1) (by omega) (by omega)) ?_ | (apply BND_step; exact (l1 (w' := w) rfl (j := 0) rfl)) | refine gg ?_))
  refine newone_step (enc := encV) (x := e) encV_len rfl fun u w1 s1 f1 z1 => ?_
  (repeat refine gg ?_)
  refine rf_dir1 hs f1 s1 (fun b hb => by simp at hb; subst hb; exact Nat.le_refl _) he hl fun w2 h2 => ?_
  (repeat refine gg ?_)
  refine h2.store (i := 0) rfl ⟨rfl, rfl⟩ (by simp [rfC]) fun w3 h3 _ => ?_
  (repeat refine gg ?_)
  refine h3.store (i := 0) rfl ⟨rfl, rfl⟩ (by simp [rfC]) fun w4 h4 _ => ?_
  replace h4 : At w0 F0 (stars (rfL d { s with dirs := [l], burn := -1, gone := false } fv u fc [e])) w4 := h4
  refine rf_now h4 (by simp) (by simp) fun e' Ge he' se => ?_
  have hee : e' = e := by
    have : ([e] : List SV)[0]? = some e' := he'
    simpa using this.symm
  subst hee
  have h60 := hw.many _ hlm
  have hr : riseD l := hw.rise _ hlm
  have hok0 : FilesOk 1048576 s.files := fun x hx => ⟨hw.sure x hx, by have := hw.small x hx; have := hw.room; omega⟩
  have hlen0 : lenl e'.v = some (.int .i64 (l.length : Int)) := se.len
  clear he' se
  refine loop_up 0 l.length (fun i w' => (∃ fc, At w0 F0 (stars (rfL d { s with files := crashF tails (l.take i) 0 s.files, dirs := [l], burn := -1, gone := false } fv u fc [e'])) w') ∧ FilesOk 1048576 (crashF tails (l.take i) 0 s.files) ∧ (crashF tails (l.take i) 0 s.files).length = s.files.length)
    ⟨⟨fc, h4.fr0 (Fr.drew _ _)⟩, hok0, rfl⟩ (by omega) ?_
  rintro i w6 - hi ⟨⟨fc6, h6⟩, hok, hlen⟩ J m hJ
  by_cases hlt : i < l.length
  · have hxi := List.getElem?_eq_getElem hlt
    obtain ⟨⟨k, f⟩, hp⟩ : ∃ p, p = l[i] := ⟨_, rfl⟩
    rw [← hp] at hxi
    have hmem : (k, f) ∈ l := List.mem_of_getElem? hxi
    have hfl : f < s.files.length := hw.idx _ hlm _ hmem
    generalize hfs : crashF tails (l.take i) 0 s.files = fs at h6 hok hlen
    have hstep : crashF tails (l.take (i + 1)) 0 s.files = crash1 tails f i fs := by
      rw [List.take_add_one, hxi]
      show crashF tails (l.take i ++ [(k, f)]) 0 s.files = _
      rw [crashF_snoc, hfs]
      congr 1
      rw [List.length_take]; omega
    have hfl2 : f < fs.length := by omega
    have hx : fs[f]? = some (fs.getD f ⟨[], 0⟩) := by rw [List.getD_eq_getElem?_getD, List.getElem?_eq_getElem hfl2]; rfl
    have hxo := hok _ (List.mem_of_getElem? hx)
    have hok2 := crash1_ok (tails := tails) (i := i) hok hfl2
    have hlen2 := crash1_len tails f i fs
    have htail := tailOf_le (fs.getD f ⟨[], 0⟩) tails i
    have hc1 : crash1 tails f i fs = fs.set f ⟨(fs.getD f ⟨[], 0⟩).b.take ((fs.getD f ⟨[], 0⟩).sure + tailOf (fs.getD f ⟨[], 0⟩) tails i), (fs.getD f ⟨[], 0⟩).sure + tailOf (fs.getD f ⟨[], 0⟩) tails i⟩ := rfl
    generalize fs.getD f ⟨[], 0⟩ = x at hx hxo htail hc1
    obtain ⟨F6, ⟨_, _, ⟨_, hE6⟩, _⟩, _⟩ := h6.get 2 rfl
    obtain ⟨e2, G2, he2, se2, _⟩ := hE6 0 l rfl
    have hee2 : e2 = e' := by simpa using he2.symm
    subst hee2
    obtain ⟨bn, on, ian, _, hbn, ln⟩ := se2.arr.spot hxi rfl .i64
    obtain ⟨b, v, ia, rd, _, _, st⟩ := rf_spot h6 (f := f) (x := x) hx
    have e6 : hsz w6.drew = hsz w6 := rfl
    have ld : ∀ w', Fr [] w6 w' → load1 w' (.pointer (some ⟨bn, on + 1, none⟩)) = some (.int .i64 (f : Int)) := fun w' fr => ln (fr.keep bn hbn (by simp)) (j := 1) rfl
    (repeat refine gg ?_)
    refine ⟨fun _ w' => Fr [] w6 w', Fr.drew _ _, Fr.drew _ _, Fr.drew _ _, ?_⟩
    (repeat (first | refine gg ?_ | refine FLT.mk _ (fun _ hw_ => (rd _ hw_).1) ?_ | refine FLT.mk _ (fun _ hw_ => (ld _ hw_)) ?_))
    refine FLT.mk _ (fun _ hw_ => (rd _ hw_).2.2.2.1) ?_
    refine NEW_intro fun w7 b7 f7 z7 => ?_
    have f67 := (Fr.drew [] w6).trans' f7
    refine ⟨f67, f67, f67, ?_⟩
    refine put_step (n := 2) (vs := [v.v, .int .i64 (x.sure : Int)]) b7 rfl rfl (by intro u hu; simp at hu; rcases hu with rfl | rfl <;> rfl) (by simp) fun w8 b8 f8 _ => ?_
    have f68 : Fr [] w6 w8 := f67.trans f8 fun b hb => .inr (by simp at hb; omega)
    have b8' : blk w8.drew (hsz w6.drew) = some (.cells [v.v, .int .i64 (x.sure : Int)].toArray _ (0, 0)) := b8
    have hta8 := hta w8 (h6.frame.trans' f68.nil)
    obtain ⟨_, _, _, _, Gb, sb8⟩ := rd w8.drew (f68.trans' (Fr.drew _ _))
    (repeat (first | refine BND_step hta8.len ?_ | refine gg ?_))
    refine join_v (Q := fun v w' => v = .int .i64 ((tailOf x tails i : Nat) : Int) ∧ Fr [] w8 w') (fun K hK => ?_) ?_
    · by_cases hit : i < tails.length
      · have htx := List.getElem?_eq_getElem hit
        generalize htv : tails[i] = t at htx
        obtain ⟨bt, ot, iat, _, _, lt⟩ := hta8.spot htx rfl .i64
        obtain ⟨m1, m2⟩ := tail_min hxo.1 htx
        (repeat (first | (apply BND_step; exact (lt (w' := w8.drew) rfl (j := 0) rfl)) | refine BND_step sb8.len ?_ | refine BND_step (subn_ (n := x.b.length) (m := x.sure) hxo.1 (by omega)) ?_ | refine gg ?_))
        exact hK _ _ ⟨rfl, Fr.drew [] _⟩
      · (repeat refine gg ?_)
        have e0 : tailOf x tails i = 0 := by unfold tailOf; rw [List.getElem?_eq_none (by omega)]
        exact hK _ _ ⟨by rw [e0]; rfl, Fr.refl _ _⟩
    · rintro _ w9 ⟨rfl, f9⟩
      have f69 := (f68.trans' f9).trans' (Fr.drew [] w9)
      have e9 : hsz w9.drew = hsz w9 := rfl
      have b9 := (f9.trans' (Fr.drew [] w9)).some (by simp) b8
      have rb : ∀ w', Fr [] w9.drew w' → load1 w' (.pointer (some ⟨hsz w6.drew, 0 + 0, none⟩)) = some v.v ∧ load1 w' (.pointer (some ⟨hsz w6.drew, 0 + 1, none⟩)) = some (.int .i64 (x.sure : Int)) := fun w' fr =>
        ⟨load1_at (fr.some (by simp) b9) rfl, load1_at (fr.some (by simp) b9) rfl⟩
      obtain ⟨_, _, _, _, Gb9, sb9⟩ := rd w9.drew f69
      obtain ⟨va, ea, ca⟩ := sb9.upto encB_len (n := x.sure + tailOf x tails i) (by omega) .i64
      refine ⟨fun _ w' => Fr [] w9.drew w', Fr.refl _ _, Fr.refl _ _, Fr.refl _ _, Fr.refl _ _, Fr.refl _ _, ?_⟩
      (repeat (first | refine BND_step (addn_ (by omega)) ?_ | refine gg ?_ | refine FLT.mk _ (fun _ hw_ => (rd _ (f69.trans' hw_)).1) ?_ | refine FLT.mk _ (fun _ hw_ => (ld _ (f69.trans' hw_))) ?_ | refine FLT.mk _ (fun _ hw_ => (rb _ hw_).1) ?_ | refine FLT.mk _ (fun _ hw_ => (rb _ hw_).2) ?_))
      refine newnil_step encB fun t w10 s10 f10 z10 => ?_
      refine ⟨f10, f10, f10, f10, f10, ?_⟩
      refine APPEND_slc s10 (ca w10 fun b hb => f10.keep b (sb9.lt b hb) (by simp)) encB_len encB_one rfl (by simp; omega) (by simp; omega) fun v11 w11 G11 s11 f11 sub11 => ?_
      rw [List.nil_append] at s11
      have f911 := f10.trans f11 fun b hb => .inr (by simp at hb; omega)
      refine ⟨f911, f911, f911, ?_⟩
      have gr := f69.grow
      obtain ⟨e11, rfl⟩ := slc_sv s11
      (repeat (first | refine gg ?_ | (apply BND_build ([e11.v, .int .i64 ((x.sure + tailOf x tails i : Nat) : Int)]); exact rfl)))
      refine st w11 e11 G11 _ _ _ (f69.trans' f911) s11 (fun b hb => ?_) fun w12 h12 => ?_
      · rcases sub11 b hb with hq | hq
        · simp at hq; omega
        · omega
      · (repeat refine gg ?_)
        refine hJ w12 hlt ?_
        rw [hstep]
        refine ⟨⟨fc6.set f (e11, x.sure + tailOf x tails i), ?_⟩, hok2, by omega⟩
        rw [hc1]
        exact h12
  · (repeat refine gg ?_)
    rw [List.take_of_length_le (by omega)] at h6
    exact hR w6 (rf_shut h6)
end
end Go.Proofs.YtmefbneoljpbgaaGreatDoor
end
