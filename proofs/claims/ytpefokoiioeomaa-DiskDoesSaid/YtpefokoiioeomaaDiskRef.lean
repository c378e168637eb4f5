/- The document's disk in memory. No condition. -/
import Derived.Test.YtpefokoiioeomaaDiskAwake
import Derived.Test.YtpefokoiioeomaaDiskInv2
import Derived.Test.YtpefokoiioeomaaTwo
import Derived.Test.YtpefokoiioeomaaMa
namespace Go.Den
section
variable {α : Type} {enc : α → List Value} {sz : Nat} {w w' : World} {v u : Value} {xs ys : List α} {F G : List Nat} {k : Value → World → Prop}
/-- a new slice of what another one has. -/
theorem copy_step {E E' bytes : Nat} {zero : Array Value} {zero' : Value} (hu : ∀ w1, Fr [] w w1 → cellsOfArg w1 sz u = some (flat enc ys, ys.length)) (hl : ∀ x, (enc x).length = sz) (hl1 : ∀ x, ∀ u ∈ enc x, u.oneCell' = true) (hz : zero'.cells.size = sz) (hb : bytes ≤ 1000)
    (hmax : ys.length < 100000000000) (K : ∀ v' w' G, Slc enc sz w' v' ys G → (∀ b ∈ G, hsz w ≤ b) → Fr [] w w' → k v' w') : BND (newslice E zero sz 0 [] w) fun p_ => NEW p_ fun t w1 => APPEND E' sz bytes zero' t u w1 k := by
  refine newnil_step enc fun t w1 s1 f1 z1 => ?_
  refine APPEND_slc s1 (hu w1 f1) hl hl1 hz (by simp only [List.length_nil, Nat.zero_add]; exact Nat.le_trans (Nat.mul_le_mul_left _ hb) (by omega)) (by simp; omega) fun v' w' F' s' f' sub => ?_
  refine K v' w' F' (by simpa using s') (fun b hb => ?_) (f1.trans f' fun b hb => .inr (by simp at hb; omega))
  rcases sub b hb with h | h
  · simp at h; omega
  · omega
/-- one more behind a slice. -/
theorem push_step {E E' bytes : Nat} {zero : Array Value} {zero' y : Value} {x : α} (s : Slc enc sz w v xs G) (hl : ∀ x, (enc x).length = sz) (hl1 : ∀ x, ∀ u ∈ enc x, u.oneCell' = true) (hy : y.cells = (enc x).toArray) (hz : zero'.cells.size = sz) (hb : bytes ≤ 1000)
    (hmax : xs.length < 10000000000) (K : ∀ v' w' G', Slc enc sz w' v' (xs ++ [x]) G' → (∀ b ∈ G', b ∈ G ∨ hsz w ≤ b) → Fr G w w' → k v' w') : BND (newslice E zero sz 1 [(0, sz, y)] w) fun p_ => NEW p_ fun t w1 => APPEND E' sz bytes zero' v t w1 k := by
  refine newone_step hl hy fun t w1 s1 f1 z1 => ?_
  refine APPEND_slc (s.fr f1 (by simp)) (s1.loads hl) hl hl1 hz (Nat.le_trans (Nat.mul_le_mul_left _ hb) (by simp; omega)) (by simp; omega) fun v' w' F' s' f' sub => ?_
  refine K v' w' F' s' (fun b hb => ?_) (f1.nil.trans' f')
  rcases sub b hb with h | h
  · exact .inl h
  · exact .inr (by omega)
end
end Go.Den
namespace Go.Proofs.Ytpefokoiioeomaa
open Go.Den Go.Disk
/-- a slice's header. -/
structure SV where
  a : Option Addr
  n : Nat
  c : Nat
def SV.v (x : SV) : Value := .slice x.a x.n x.c
def encV (x : SV) : List Value := [x.v]
theorem encV_len (x : SV) : (encV x).length = 1 := rfl
theorem encV_one (x : SV) : ∀ u ∈ encV x, u.oneCell' = true := by intro u hu; simp [encV] at hu; subst hu; rfl
def encE (x : ByteArray × Nat) : List Value := [.string x.1, .int .i64 (x.2 : Int)]
theorem encE_len (x : ByteArray × Nat) : (encE x).length = 2 := rfl
theorem encE_one (x : ByteArray × Nat) : ∀ u ∈ encE x, u.oneCell' = true := by intro u hu; simp [encE] at hu; rcases hu with rfl | rfl <;> rfl
def encG (x : SV × Nat) : List Value := [x.1.v, .int .i64 (x.2 : Int)]
theorem encG_len (x : SV × Nat) : (encG x).length = 2 := rfl
theorem encG_one (x : SV × Nat) : ∀ u ∈ encG x, u.oneCell' = true := by intro u hu; simp [encG] at hu; rcases hu with rfl | rfl <;> rfl
theorem slc_sv {α : Type} {enc : α → List Value} {sz : Nat} {w : World} {v : Value} {xs : List α} {F : List Nat} (s : Slc enc sz w v xs F) : ∃ x : SV, v = x.v := by
  rcases s with ⟨rfl, _⟩ | ⟨b, cap, c, T, rfl, _⟩
  · exact ⟨⟨none, 0, 0⟩, rfl⟩
  · exact ⟨⟨_, _, _⟩, rfl⟩
def Ents (w : World) (es : List SV) (ds : List Dir) (F : List Nat) : Prop := es.length = ds.length ∧ ∀ (i : Nat) (l : Dir), ds[i]? = some l → ∃ (e : SV) (G : List Nat), es[i]? = some e ∧ Slc encE 2 w e.v l G ∧ ∀ b ∈ G, b ∈ F
def Fils (w : World) (fc : List (SV × Nat)) (fs : List Fl) (F : List Nat) : Prop := fc.length = fs.length ∧ ∀ (i : Nat) (x : Fl), fs[i]? = some x → ∃ (v : SV) (G : List Nat), fc[i]? = some (v, x.sure) ∧ Slc encB 1 w v.v x.b G ∧ ∀ b ∈ G, b ∈ F
theorem Ents.st {w w' : World} {es : List SV} {ds : List Dir} {F : List Nat} (h : Ents w es ds F) (hk : ∀ b ∈ F, blk w' b = blk w b) : Ents w' es ds F :=
  ⟨h.1, fun i l hl => by obtain ⟨e, G, h1, h2, h3⟩ := h.2 i l hl; exact ⟨e, G, h1, h2.congr fun b hb => hk b (h3 b hb), h3⟩⟩
theorem Fils.st {w w' : World} {fc : List (SV × Nat)} {fs : List Fl} {F : List Nat} (h : Fils w fc fs F) (hk : ∀ b ∈ F, blk w' b = blk w b) : Fils w' fc fs F :=
  ⟨h.1, fun i l hl => by obtain ⟨e, G, h1, h2, h3⟩ := h.2 i l hl; exact ⟨e, G, h1, h2.congr fun b hb => hk b (h3 b hb), h3⟩⟩
theorem Ents.sub {w : World} {es : List SV} {ds : List Dir} {F F' : List Nat} (h : Ents w es ds F) (hk : ∀ b ∈ F, b ∈ F') : Ents w es ds F' :=
  ⟨h.1, fun i l hl => by obtain ⟨e, G, h1, h2, h3⟩ := h.2 i l hl; exact ⟨e, G, h1, h2, fun b hb => hk b (h3 b hb)⟩⟩
theorem Fils.sub {w : World} {fc : List (SV × Nat)} {fs : List Fl} {F F' : List Nat} (h : Fils w fc fs F) (hk : ∀ b ∈ F, b ∈ F') : Fils w fc fs F' :=
  ⟨h.1, fun i l hl => by obtain ⟨e, G, h1, h2, h3⟩ := h.2 i l hl; exact ⟨e, G, h1, h2, fun b hb => hk b (h3 b hb)⟩⟩
theorem Ents.snoc {w : World} {es : List SV} {ds : List Dir} {F G : List Nat} {e : SV} {l : Dir} (h : Ents w es ds F) (s : Slc encE 2 w e.v l G) (hG : ∀ b ∈ G, b ∈ F) : Ents w (es ++ [e]) (ds ++ [l]) F := by
  obtain ⟨h1, h2⟩ := h
  refine ⟨by simp [h1], fun i m hm => ?_⟩
  by_cases hi : i < ds.length
  · rw [List.getElem?_append_left hi] at hm
    obtain ⟨e', G', h3, h4, h5⟩ := h2 i m hm
    exact ⟨e', G', by rw [List.getElem?_append_left (by omega)]; exact h3, h4, h5⟩
  · have : i = ds.length := by have := (List.getElem?_eq_some_iff.1 hm).1; simp at this; omega
    subst this
    simp at hm; subst hm
    exact ⟨e, G, by rw [List.getElem?_append_right (by omega)]; simp [h1], s, hG⟩
theorem Ents.one {w : World} {F G : List Nat} {e : SV} {l : Dir} (s : Slc encE 2 w e.v l G) (hG : ∀ b ∈ G, b ∈ F) : Ents w [e] [l] F := by
  refine ⟨rfl, fun i m hm => ?_⟩
  cases i with
  | zero => simp at hm; subst hm; exact ⟨e, G, rfl, s, hG⟩
  | succ i => simp at hm
theorem Fils.snoc {w : World} {fc : List (SV × Nat)} {fs : List Fl} {F G : List Nat} {v : SV} {x : Fl} (h : Fils w fc fs F) (s : Slc encB 1 w v.v x.b G) (hG : ∀ b ∈ G, b ∈ F) : Fils w (fc ++ [(v, x.sure)]) (fs ++ [x]) F := by
  obtain ⟨h1, h2⟩ := h
  refine ⟨by simp [h1], fun i m hm => ?_⟩
  by_cases hi : i < fs.length
  · rw [List.getElem?_append_left hi] at hm
    obtain ⟨e', G', h3, h4, h5⟩ := h2 i m hm
    exact ⟨e', G', by rw [List.getElem?_append_left (by omega)]; exact h3, h4, h5⟩
  · have : i = fs.length := by have := (List.getElem?_eq_some_iff.1 hm).1; simp at this; omega
    subst this
    simp at hm; subst hm
    exact ⟨v, G, by rw [List.getElem?_append_right (by omega)]; simp [h1], s, hG⟩
theorem Fils.set {w : World} {fc : List (SV × Nat)} {fs : List Fl} {F G : List Nat} {v : SV} {x : Fl} {f : Nat} (h : Fils w fc fs F) (s : Slc encB 1 w v.v x.b G) (hG : ∀ b ∈ G, b ∈ F) : Fils w (fc.set f (v, x.sure)) (fs.set f x) F := by
  obtain ⟨h1, h2⟩ := h
  refine ⟨by simp [h1], fun i m hm => ?_⟩
  by_cases hi : i = f
  · subst hi
    have hl : i < fs.length := by have := (List.getElem?_eq_some_iff.1 hm).1; simpa using this
    rw [List.getElem?_set_self hl] at hm
    cases hm
    exact ⟨v, G, List.getElem?_set_self (by omega), s, hG⟩
  · rw [List.getElem?_set_ne (Ne.symm hi)] at hm
    obtain ⟨e', G', h3, h4, h5⟩ := h2 i m hm
    exact ⟨e', G', by rw [List.getElem?_set_ne (Ne.symm hi)]; exact h3, h4, h5⟩
/-- what is never changed in place. -/
def immHP (fc : List (SV × Nat)) (dv : Value) (es : List SV) (fs : List Fl) (ds : List Dir) : HP where
  p w F := (∀ b ∈ F, b < hsz w) ∧ (∃ G, Slc encV 1 w dv es G ∧ ∀ b ∈ G, b ∈ F) ∧ Ents w es ds F ∧ Fils w fc fs F
  lt := fun h => h.1
  st := by
    rintro w w' F ⟨h1, ⟨G, h2, h3⟩, h4, h5⟩ hk
    refine ⟨fun b hb => ?_, ⟨G, h2.congr fun b hb => hk b (h3 b hb), h3⟩, h4.st hk, h5.st hk⟩
    have := hk b hb
    have hlt := h1 b hb
    refine Nat.lt_of_not_le fun hge => ?_
    have e1 : blk w' b = none := blk_none hge
    rw [e1] at this
    have := Array.getElem?_eq_none_iff.1 (show w.heap[b]? = none from this.symm)
    unfold hsz at hlt
    omega
def rfC (s : Dk) (fv dv : Value) : List Value := [.int .i64 s.room, fv, dv, .int .i64 s.burn, .bool s.gone]
def rfL (d : Nat) (s : Dk) (fv dv : Value) (fc : List (SV × Nat)) (es : List SV) : List HP := [pts d (rfC s fv dv), slc encG 2 fv fc, immHP fc dv es s.files s.dirs]
def rfHP (d : Nat) (s : Dk) : HP := ex fun x : Value × Value × List (SV × Nat) × List SV => stars (rfL d s x.1 x.2.1 x.2.2.1 x.2.2.2)
theorem idxs_at {s : ByteArray} {i : Nat} {x : UInt8} (h : s.data.toList[i]? = some x) : indexs (.string s) (.int .i64 (i : Int)) = some (.int .u8 (x.toNat : Int)) := by
  have hi : i < s.size := by have := (List.getElem?_eq_some_iff.1 h).1; simpa using this
  have e : s[i]? = some x := by
    rw [getElem?_pos s i hi]
    rw [Array.getElem?_toList, Array.getElem?_eq_getElem hi] at h
    exact h
  unfold indexs
  simp [e]
theorem incB {i : Nat} (h : i < 9223372036854775807) : binv .int .add (.int .i64 (i : Int)) (.int .i64 1) = some (.int .i64 ((i + 1 : Nat) : Int)) := by
  rw [binv_add, wrap_i64 (by omega) (by omega)]; congr 2
/-- a name's file's number, or -1. -/
def numOf (o : Option Nat) : Int := match o with | none => -1 | some f => (f : Int)
theorem findD_drop {l : Dir} {n : ByteArray} {i : Nat} {x : ByteArray × Nat} (hx : l[i]? = some x) (h : findD l n = findD (l.drop i) n) : (x.1 = n → findD l n = some x.2) ∧ (x.1 ≠ n → findD l n = findD (l.drop (i + 1)) n) := by
  have hi := (List.getElem?_eq_some_iff.1 hx).1
  have e : l.drop i = x :: l.drop (i + 1) := by rw [List.drop_eq_getElem_cons hi]; congr; exact (List.getElem?_eq_some_iff.1 hx).2
  obtain ⟨k, f⟩ := x
  rw [h, e]
  simp only [findD]
  exact ⟨fun h => by rw [if_pos h], fun h => by rw [if_neg h]⟩
section
variable {w0 w : World} {F0 : List Nat} {d : Nat} {s : Dk}
theorem rf_open (h : At w0 F0 (rfHP d s) w) : ∃ fv dv fc es, At w0 F0 (stars (rfL d s fv dv fc es)) w := by
  obtain ⟨F, ⟨⟨fv, dv, fc, es⟩, h1⟩, h2, h3⟩ := h
  exact ⟨fv, dv, fc, es, F, h1, h2, h3⟩
theorem rf_shut {fv dv : Value} {fc : List (SV × Nat)} {es : List SV} (h : At w0 F0 (stars (rfL d s fv dv fc es)) w) : At w0 F0 (rfHP d s) w := by
  obtain ⟨F, h1, h2, h3⟩ := h
  exact ⟨F, ⟨⟨fv, dv, fc, es⟩, h1⟩, h2, h3⟩
end
set_option linter.unusedSimpArgs false
set_option linter.unusedVariables false
set_option maxRecDepth 20000
set_option maxHeartbeats 4000000
attribute [local congr] BND_cg COND_cg GEF_cg
attribute [local irreducible] load1 loadn iaddr iaddra faddr storev newslice binv lookv mupd mdel mlenv mentry mestore slicev slicev3 slices indexs indexav textv rangev nexts clearv shiftv eqaggv convi buildv pickv lens lenl unv nilchk extractv partn JOIN
section
variable {w0 w : World} {F0 : List Nat} {d : Nat} {s : Dk} {fv dv : Value} {fc : List (SV × Nat)} {es : List SV} {R : Value → World → Prop}
theorem rf_now (h : At w0 F0 (stars (rfL d s fv dv fc es)) w) (hne : s.dirs ≠ []) (hn : s.dirs.length < 1000000000) (hR : ∀ e G, es[s.dirs.length - 1]? = some e → Slc encE 2 w.drew e.v s.now G → R e.v w.drew) : CALL PR F_tumbrelref06_Disk_now [ptrTo d] w R := by
  refine C_tumbrelref06_Disk_now ?_
  unfold M_tumbrelref06_Disk_now ptrTo
  obtain ⟨T, c⟩ := h.cell (i := 0) rfl
  obtain ⟨F, ⟨_, ⟨G, sd, _⟩, ⟨hl, hE⟩, _⟩, _⟩ := h.get 2 rfl
  have hpos : 0 < s.dirs.length := List.length_pos_iff.2 hne
  obtain ⟨e, Ge, he, se, _⟩ := hE _ _ (dk_now_get hne)
  have cd : blk w.drew d = some (.cells (rfC s fv dv).toArray T (0, 0)) := c
  have sd' : Slc encV 1 w.drew dv es G := sd.congr fun _ _ => rfl
  obtain ⟨b, o, ia, _, _, l1⟩ := sd'.arr.spot he rfl .i64
  rw [← hl] at ia
  (repeat (first | (apply BND_ld cd; exact rfl) | refine BND_step sd'.len ?_ | refine BND_step (subn_ (n := es.length) (m := 1) (by omega) (by omega)) ?_ | refine BND_step ia ?_ | (apply BND_step; exact (l1 (w' := w.drew) rfl (j := 0) rfl)) | refine stp ?_ | (apply BND_inc; omega) | (apply BND_dec; omega) | refine BND_step (rfl : some _ = some _) ?_ | (apply cyes; first | assumption | omega) | (apply cno; first | assumption | omega) | refine (COND_true _ _).2 ?_ | refine (COND_false _ _).2 ?_ | simp (disch := first | assumption | omega) only [gs1, gs2, decide_true, decide_false, eq_self, beq_self_eq_true, Bool.not_true, Bool.not_false]))
  exact hR e Ge he (se.congr fun _ _ => rfl)
theorem rf_find (h : At w0 F0 (rfHP d s) w) (hw : s.Wf) (hn : s.dirs.length < 1000000000) (n : ByteArray) (hR : ∀ w', Fr [] w w' → R (.int .i64 (numOf (s.find n))) w') : CALL PR F_tumbrelref06_Disk_find [ptrTo d, .string n] w R := by
  obtain ⟨fv, dv, fc, es, hs⟩ := rf_open h
  refine C_tumbrelref06_Disk_find ?_
  unfold M_tumbrelref06_Disk_find
  refine rf_now hs hw.ne hn fun e G _ se => ?_
  have h60 := hw.many _ (now_mem hw)
  refine loop_up 0 s.now.length (fun i w' => Fr [] w.drew w' ∧ findD s.now n = findD (s.now.drop i) n) ⟨Fr.refl _ _, rfl⟩ (by omega) ?_
  rintro i w1 - hi ⟨f1, e1⟩ J m hJ
  by_cases hlt : i < s.now.length
  · have hx := List.getElem?_eq_getElem hlt
    generalize s.now[i] = x at hx
    obtain ⟨b, o, ia, _, _, l1⟩ := (se.fr f1 (by simp)).arr.spot hx rfl .i64
    obtain ⟨y, nn⟩ := findD_drop hx e1
    obtain ⟨k, f⟩ := x
    simp only at y nn
    (repeat (first | refine BND_step se.len ?_ | refine BND_step ia ?_ | (apply BND_step; exact (l1 (w' := w1) rfl (j := 0) rfl)) | (apply BND_step; exact (l1 (w' := w1) rfl (j := 1) rfl)) | refine stp ?_ | (apply BND_inc; omega) | (apply BND_dec; omega) | refine BND_step (rfl : some _ = some _) ?_ | (apply cyes; first | assumption | omega) | (apply cno; first | assumption | omega) | refine (COND_true _ _).2 ?_ | refine (COND_false _ _).2 ?_ | simp (disch := first | assumption | omega) only [gs1, gs2, decide_true, decide_false, eq_self, beq_self_eq_true, Bool.not_true, Bool.not_false]))
    by_cases hk : k = n
    · (repeat (first | refine BND_step ia ?_ | (apply BND_step; exact (l1 (w' := w1) rfl (j := 1) rfl)) | refine stp ?_ | (apply BND_inc; omega) | (apply BND_dec; omega) | refine BND_step (rfl : some _ = some _) ?_ | (apply cyes; first | assumption | omega) | (apply cno; first | assumption | omega) | refine (COND_true _ _).2 ?_ | refine (COND_false _ _).2 ?_ | simp (disch := first | assumption | omega) only [gs1, gs2, decide_true, decide_false, eq_self, beq_self_eq_true, Bool.not_true, Bool.not_false]))
      have := hR w1 ((Fr.drew _ _).trans' f1)
      unfold Dk.find numOf at this
      rw [y hk] at this
      exact this
    · (repeat (first | refine stp ?_ | (apply BND_inc; omega) | (apply BND_dec; omega) | refine BND_step (rfl : some _ = some _) ?_ | (apply cyes; first | assumption | omega) | (apply cno; first | assumption | omega) | refine (COND_true _ _).2 ?_ | refine (COND_false _ _).2 ?_ | simp (disch := first | assumption | omega) only [gs1, gs2, decide_true, decide_false, eq_self, beq_self_eq_true, Bool.not_true, Bool.not_false]))
      exact hJ _ hlt ⟨f1, nn hk⟩
  · (repeat (first | refine BND_step se.len ?_ | refine stp ?_ | (apply BND_inc; omega) | (apply BND_dec; omega) | refine BND_step (rfl : some _ = some _) ?_ | (apply cyes; first | assumption | omega) | (apply cno; first | assumption | omega) | refine (COND_true _ _).2 ?_ | refine (COND_false _ _).2 ?_ | simp (disch := first | assumption | omega) only [gs1, gs2, decide_true, decide_false, eq_self, beq_self_eq_true, Bool.not_true, Bool.not_false]))
    rw [List.drop_eq_nil_of_le (by omega)] at e1
    have := hR w1 ((Fr.drew _ _).trans' f1)
    unfold Dk.find numOf at this
    rw [e1] at this
    exact this
theorem rf_may (n : ByteArray) (hsz_ : n.size ≤ 9223372036854775807) (hR : ∀ w', Fr [] w w' → R (.bool (named n)) w') : CALL PR F_tumbrelref06_may [.string n] w R := by
  refine C_tumbrelref06_may ?_
  unfold M_tumbrelref06_may
  have hl : n.data.toList.length = n.size := Array.length_toList
  unfold named at hR
  refine loop_up 0 n.size (fun i w' => w' = w ∧ (n.data.toList.take i).all okByte = true) ⟨rfl, rfl⟩ (by omega) ?_
  rintro i w1 - hi ⟨rfl, e⟩ J m hJ
  by_cases hlt : i < n.size
  · have hx := List.getElem?_eq_getElem (l := n.data.toList) (i := i) (by omega)
    have hmem := List.getElem_mem (l := n.data.toList) (n := i) (by omega)
    generalize n.data.toList[i] = x at hx hmem
    have no : okByte x = false → R (.bool false) w1 := fun h => by
      have := hR w1 (Fr.refl _ _)
      rwa [show n.data.toList.all okByte = false from List.all_eq_false.2 ⟨x, hmem, by simp [h]⟩, Bool.and_false] at this
    have yes : okByte x = true → J (.int .i64 ((i + 1 : Nat) : Int)) w1 ∧ m (.int .i64 ((i + 1 : Nat) : Int)) w1 < m (.int .i64 (i : Int)) w1 := fun h =>
      hJ w1 hlt ⟨rfl, by rw [List.take_add_one, hx, List.all_append, e]; simp [h]⟩
    have hok : okByte x = true ↔ x.toNat = 46 ∨ (48 ≤ x.toNat ∧ x.toNat ≤ 57) ∨ (97 ≤ x.toNat ∧ x.toNat ≤ 122) := by
      unfold okByte
      simp only [Bool.or_eq_true, Bool.and_eq_true, decide_eq_true_eq, UInt8.le_iff_toNat_le, ← UInt8.toNat_inj]
      simp [or_assoc]
    have einc := incB (i := i) (by omega)
    (repeat (first | refine BND_step (idxs_at hx) ?_ | refine BND_step einc ?_ | refine stp ?_ | (apply BND_inc; omega) | (apply BND_dec; omega) | refine BND_step (rfl : some _ = some _) ?_ | (apply cyes; first | assumption | omega) | (apply cno; first | assumption | omega) | refine (COND_true _ _).2 ?_ | refine (COND_false _ _).2 ?_ | simp (disch := first | assumption | omega) only [gs1, gs2, decide_true, decide_false, eq_self, beq_self_eq_true, Bool.not_true, Bool.not_false]))
    by_cases q1 : (x.toNat : Int) = 46
    · (repeat (first | refine BND_step einc ?_ | refine stp ?_ | (apply BND_inc; omega) | (apply BND_dec; omega) | refine BND_step (rfl : some _ = some _) ?_ | (apply cyes; first | assumption | omega) | (apply cno; first | assumption | omega) | refine (COND_true _ _).2 ?_ | refine (COND_false _ _).2 ?_ | simp (disch := first | assumption | omega) only [gs1, gs2, decide_true, decide_false, eq_self, beq_self_eq_true, Bool.not_true, Bool.not_false]))
      exact yes (hok.2 (by omega))
    (repeat (first | refine stp ?_ | (apply BND_inc; omega) | (apply BND_dec; omega) | refine BND_step (rfl : some _ = some _) ?_ | (apply cyes; first | assumption | omega) | (apply cno; first | assumption | omega) | refine (COND_true _ _).2 ?_ | refine (COND_false _ _).2 ?_ | simp (disch := first | assumption | omega) only [gs1, gs2, decide_true, decide_false, eq_self, beq_self_eq_true, Bool.not_true, Bool.not_false]))
    by_cases q2 : (48 : Int) ≤ (x.toNat : Int)
    · by_cases q3 : (x.toNat : Int) ≤ 57
      · (repeat (first | refine BND_step einc ?_ | refine stp ?_ | (apply BND_inc; omega) | (apply BND_dec; omega) | refine BND_step (rfl : some _ = some _) ?_ | (apply cyes; first | assumption | omega) | (apply cno; first | assumption | omega) | refine (COND_true _ _).2 ?_ | refine (COND_false _ _).2 ?_ | simp (disch := first | assumption | omega) only [gs1, gs2, decide_true, decide_false, eq_self, beq_self_eq_true, Bool.not_true, Bool.not_false]))
        exact yes (hok.2 (by omega))
      · by_cases q4 : (97 : Int) ≤ (x.toNat : Int)
        · by_cases q5 : (x.toNat : Int) ≤ 122
          · (repeat (first | refine BND_step einc ?_ | refine stp ?_ | (apply BND_inc; omega) | (apply BND_dec; omega) | refine BND_step (rfl : some _ = some _) ?_ | (apply cyes; first | assumption | omega) | (apply cno; first | assumption | omega) | refine (COND_true _ _).2 ?_ | refine (COND_false _ _).2 ?_ | simp (disch := first | assumption | omega) only [gs1, gs2, decide_true, decide_false, eq_self, beq_self_eq_true, Bool.not_true, Bool.not_false]))
            exact yes (hok.2 (by omega))
          · (repeat (first | refine stp ?_ | (apply BND_inc; omega) | (apply BND_dec; omega) | refine BND_step (rfl : some _ = some _) ?_ | (apply cyes; first | assumption | omega) | (apply cno; first | assumption | omega) | refine (COND_true _ _).2 ?_ | refine (COND_false _ _).2 ?_ | simp (disch := first | assumption | omega) only [gs1, gs2, decide_true, decide_false, eq_self, beq_self_eq_true, Bool.not_true, Bool.not_false]))
            exact no (Bool.eq_false_iff.2 fun h => by have := hok.1 h; omega)
        · (repeat (first | refine stp ?_ | (apply BND_inc; omega) | (apply BND_dec; omega) | refine BND_step (rfl : some _ = some _) ?_ | (apply cyes; first | assumption | omega) | (apply cno; first | assumption | omega) | refine (COND_true _ _).2 ?_ | refine (COND_false _ _).2 ?_ | simp (disch := first | assumption | omega) only [gs1, gs2, decide_true, decide_false, eq_self, beq_self_eq_true, Bool.not_true, Bool.not_false]))
          exact no (Bool.eq_false_iff.2 fun h => by have := hok.1 h; omega)
    · (repeat (first | refine stp ?_ | (apply BND_inc; omega) | (apply BND_dec; omega) | refine BND_step (rfl : some _ = some _) ?_ | (apply cyes; first | assumption | omega) | (apply cno; first | assumption | omega) | refine (COND_true _ _).2 ?_ | refine (COND_false _ _).2 ?_ | simp (disch := first | assumption | omega) only [gs1, gs2, decide_true, decide_false, eq_self, beq_self_eq_true, Bool.not_true, Bool.not_false]))
      exact no (Bool.eq_false_iff.2 fun h => by have := hok.1 h; omega)
  · rw [List.take_of_length_le (by omega)] at e
    have := hR w1 (Fr.refl _ _)
    rw [e, Bool.and_true] at this
    by_cases q1 : 1 ≤ n.size
    · by_cases q2 : n.size ≤ 12
      · (repeat (first | refine stp ?_ | (apply BND_inc; omega) | (apply BND_dec; omega) | refine BND_step (rfl : some _ = some _) ?_ | (apply cyes; first | assumption | omega) | (apply cno; first | assumption | omega) | refine (COND_true _ _).2 ?_ | refine (COND_false _ _).2 ?_ | simp (disch := first | assumption | omega) only [gs1, gs2, decide_true, decide_false, eq_self, beq_self_eq_true, Bool.not_true, Bool.not_false]))
        simpa [q1, q2] using this
      · (repeat (first | refine stp ?_ | (apply BND_inc; omega) | (apply BND_dec; omega) | refine BND_step (rfl : some _ = some _) ?_ | (apply cyes; first | assumption | omega) | (apply cno; first | assumption | omega) | refine (COND_true _ _).2 ?_ | refine (COND_false _ _).2 ?_ | simp (disch := first | assumption | omega) only [gs1, gs2, decide_true, decide_false, eq_self, beq_self_eq_true, Bool.not_true, Bool.not_false]))
        simpa [q1, q2] using this
    · (repeat (first | refine stp ?_ | (apply BND_inc; omega) | (apply BND_dec; omega) | refine BND_step (rfl : some _ = some _) ?_ | (apply cyes; first | assumption | omega) | (apply cno; first | assumption | omega) | refine (COND_true _ _).2 ?_ | refine (COND_false _ _).2 ?_ | simp (disch := first | assumption | omega) only [gs1, gs2, decide_true, decide_false, eq_self, beq_self_eq_true, Bool.not_true, Bool.not_false]))
      simpa [q1] using this
theorem rf_can (h : At w0 F0 (rfHP d s) w) (e : Int) (hb : -1 ≤ s.burn ∧ s.burn ≤ 9223372036854775807) (hR : ∀ w', At w0 F0 (rfHP d (can s e).1) w' → R (.int .i64 (can s e).2) w') : CALL PR F_tumbrelref06_Disk_can [ptrTo d, .int .i64 e] w R := by
  obtain ⟨fv, dv, fc, es, hs⟩ := rf_open h
  refine C_tumbrelref06_Disk_can ?_
  unfold M_tumbrelref06_Disk_can ptrTo
  unfold can at hR
  obtain ⟨T, c⟩ := hs.cell (i := 0) rfl
  (repeat (first | (apply BND_ld c; exact rfl) | refine stp ?_ | (apply BND_inc; omega) | (apply BND_dec; omega) | refine BND_step (rfl : some _ = some _) ?_ | (apply cyes; first | assumption | omega) | (apply cno; first | assumption | omega) | refine (COND_true _ _).2 ?_ | refine (COND_false _ _).2 ?_ | simp (disch := first | assumption | omega) only [gs1, gs2, decide_true, decide_false, eq_self, beq_self_eq_true, Bool.not_true, Bool.not_false]))
  cases hg : s.gone with
  | true =>
    rw [hg] at hR
    simp only [if_true] at hR
    (repeat (first | refine stp ?_ | (apply BND_inc; omega) | (apply BND_dec; omega) | refine BND_step (rfl : some _ = some _) ?_ | (apply cyes; first | assumption | omega) | (apply cno; first | assumption | omega) | refine (COND_true _ _).2 ?_ | refine (COND_false _ _).2 ?_ | simp (disch := first | assumption | omega) only [gs1, gs2, decide_true, decide_false, eq_self, beq_self_eq_true, Bool.not_true, Bool.not_false]))
    exact hR w h
  | false =>
    rw [hg] at hR
    simp only [Bool.false_eq_true, if_false] at hR
    (repeat (first | (apply BND_ld c; exact rfl) | refine stp ?_ | (apply BND_inc; omega) | (apply BND_dec; omega) | refine BND_step (rfl : some _ = some _) ?_ | (apply cyes; first | assumption | omega) | (apply cno; first | assumption | omega) | refine (COND_true _ _).2 ?_ | refine (COND_false _ _).2 ?_ | simp (disch := first | assumption | omega) only [gs1, gs2, decide_true, decide_false, eq_self, beq_self_eq_true, Bool.not_true, Bool.not_false]))
    by_cases he : e = 0
    · subst he
      simp only [ne_eq, not_true_eq_false, if_false] at hR
      (repeat (first | (apply BND_ld c; exact rfl) | refine stp ?_ | (apply BND_inc; omega) | (apply BND_dec; omega) | refine BND_step (rfl : some _ = some _) ?_ | (apply cyes; first | assumption | omega) | (apply cno; first | assumption | omega) | refine (COND_true _ _).2 ?_ | refine (COND_false _ _).2 ?_ | simp (disch := first | assumption | omega) only [gs1, gs2, decide_true, decide_false, eq_self, beq_self_eq_true, Bool.not_true, Bool.not_false]))
      by_cases hb0 : s.burn = 0
      · simp only [hb0, if_true] at hR
        (repeat (first | refine stp ?_ | (apply BND_inc; omega) | (apply BND_dec; omega) | refine BND_step (rfl : some _ = some _) ?_ | (apply cyes; first | assumption | omega) | (apply cno; first | assumption | omega) | refine (COND_true _ _).2 ?_ | refine (COND_false _ _).2 ?_ | simp (disch := first | assumption | omega) only [gs1, gs2, decide_true, decide_false, eq_self, beq_self_eq_true, Bool.not_true, Bool.not_false]))
        refine hs.store (i := 0) rfl ⟨rfl, rfl⟩ (by simp [rfC]) fun w1 h1 f1 => ?_
        exact hR w1 (rf_shut (s := { s with burn := 0, gone := true }) (fv := fv) (dv := dv) (fc := fc) (es := es) (by rw [← hb0]; exact h1))
      · simp only [hb0, if_false] at hR
        (repeat (first | (apply BND_ld c; exact rfl) | refine stp ?_ | (apply BND_inc; omega) | (apply BND_dec; omega) | refine BND_step (rfl : some _ = some _) ?_ | (apply cyes; first | assumption | omega) | (apply cno; first | assumption | omega) | refine (COND_true _ _).2 ?_ | refine (COND_false _ _).2 ?_ | simp (disch := first | assumption | omega) only [gs1, gs2, decide_true, decide_false, eq_self, beq_self_eq_true, Bool.not_true, Bool.not_false]))
        by_cases hb1 : 0 < s.burn
        · simp only [hb1, if_true] at hR
          (repeat (first | refine stp ?_ | (apply BND_inc; omega) | (apply BND_dec; omega) | refine BND_step (rfl : some _ = some _) ?_ | (apply cyes; first | assumption | omega) | (apply cno; first | assumption | omega) | refine (COND_true _ _).2 ?_ | refine (COND_false _ _).2 ?_ | simp (disch := first | assumption | omega) only [gs1, gs2, decide_true, decide_false, eq_self, beq_self_eq_true, Bool.not_true, Bool.not_false]))
          refine join_w (fun w' => At w0 F0 (rfHP d { s with burn := s.burn - 1 }) w') (fun K hK => ?_) (fun w' hw' => hR w' (by rw [hg] at hw'; exact hw'))
          have esub : binv .int .sub (.int .i64 s.burn) (.int .i64 1) = some (.int .i64 (s.burn - 1)) := by rw [binv_sub, wrap_i64 (by omega) (by omega)]
          (repeat (first | (apply BND_ld c; exact rfl) | refine BND_step esub ?_ | refine stp ?_ | (apply BND_inc; omega) | (apply BND_dec; omega) | refine BND_step (rfl : some _ = some _) ?_ | (apply cyes; first | assumption | omega) | (apply cno; first | assumption | omega) | refine (COND_true _ _).2 ?_ | refine (COND_false _ _).2 ?_ | simp (disch := first | assumption | omega) only [gs1, gs2, decide_true, decide_false, eq_self, beq_self_eq_true, Bool.not_true, Bool.not_false]))
          refine hs.store (i := 0) rfl ⟨rfl, rfl⟩ (by simp [rfC]) fun w1 h1 f1 => hK w1 ?_
          exact rf_shut (s := { s with burn := s.burn - 1 }) (fv := fv) (dv := dv) (fc := fc) (es := es) h1
        · simp only [hb1, if_false] at hR
          (repeat (first | refine stp ?_ | (apply BND_inc; omega) | (apply BND_dec; omega) | refine BND_step (rfl : some _ = some _) ?_ | (apply cyes; first | assumption | omega) | (apply cno; first | assumption | omega) | refine (COND_true _ _).2 ?_ | refine (COND_false _ _).2 ?_ | simp (disch := first | assumption | omega) only [gs1, gs2, decide_true, decide_false, eq_self, beq_self_eq_true, Bool.not_true, Bool.not_false]))
          refine join_w (fun w' => At w0 F0 (rfHP d s) w') (fun K hK => ?_) (fun w' hw' => hR w' hw')
          (repeat (first | refine stp ?_ | (apply BND_inc; omega) | (apply BND_dec; omega) | refine BND_step (rfl : some _ = some _) ?_ | (apply cyes; first | assumption | omega) | (apply cno; first | assumption | omega) | refine (COND_true _ _).2 ?_ | refine (COND_false _ _).2 ?_ | simp (disch := first | assumption | omega) only [gs1, gs2, decide_true, decide_false, eq_self, beq_self_eq_true, Bool.not_true, Bool.not_false]))
          exact hK w h
    · simp only [ne_eq, he, not_false_eq_true, if_true] at hR
      (repeat (first | refine stp ?_ | (apply BND_inc; omega) | (apply BND_dec; omega) | refine BND_step (rfl : some _ = some _) ?_ | (apply cyes; first | assumption | omega) | (apply cno; first | assumption | omega) | refine (COND_true _ _).2 ?_ | refine (COND_false _ _).2 ?_ | simp (disch := first | assumption | omega) only [gs1, gs2, decide_true, decide_false, eq_self, beq_self_eq_true, Bool.not_true, Bool.not_false]))
      exact hR w h
theorem rf_Fuse (h : At w0 F0 (rfHP d s) w) (n : Int) (hR : ∀ w', At w0 F0 (rfHP d (fuse s n)) w' → R (.tuple #[]) w') : CALL PR F_tumbrelref06_Disk_Fuse [ptrTo d, .int .i64 n] w R := by
  obtain ⟨fv, dv, fc, es, hs⟩ := rf_open h
  refine C_tumbrelref06_Disk_Fuse ?_
  unfold M_tumbrelref06_Disk_Fuse ptrTo
  have e : max2v (.int .i64 n) (.int .i64 (-1)) = some (.int .i64 (if n < -1 then -1 else n)) := rfl
  (repeat (first | refine BND_step e ?_ | refine stp ?_ | (apply BND_inc; omega) | (apply BND_dec; omega) | refine BND_step (rfl : some _ = some _) ?_ | (apply cyes; first | assumption | omega) | (apply cno; first | assumption | omega) | refine (COND_true _ _).2 ?_ | refine (COND_false _ _).2 ?_ | simp (disch := first | assumption | omega) only [gs1, gs2, decide_true, decide_false, eq_self, beq_self_eq_true, Bool.not_true, Bool.not_false]))
  refine hs.store (i := 0) rfl ⟨rfl, rfl⟩ (by simp [rfC]) fun w1 h1 f1 => ?_
  exact hR w1 (rf_shut (s := fuse s n) (fv := fv) (dv := dv) (fc := fc) (es := es) h1)
theorem rf_New (room : Int) (hR0 : (room < 16 ∨ 1048576 < room) → R (.tuple #[.pointer none, .int .i64 1]) w)
    (hR : 16 ≤ room ∧ room ≤ 1048576 → ∀ w' d, At w [] (rfHP d (empty room)) w' → R (.tuple #[ptrTo d, .int .i64 0]) w') : CALL PR F_tumbrelref06_New [.int .i64 room] w R := by
  refine C_tumbrelref06_New ?_
  unfold M_tumbrelref06_New
  by_cases h1 : room < 16
  · (repeat (first | refine stp ?_ | (apply BND_inc; omega) | (apply BND_dec; omega) | refine BND_step (rfl : some _ = some _) ?_ | (apply cyes; first | assumption | omega) | (apply cno; first | assumption | omega) | refine (COND_true _ _).2 ?_ | refine (COND_false _ _).2 ?_ | simp (disch := first | assumption | omega) only [gs1, gs2, decide_true, decide_false, eq_self, beq_self_eq_true, Bool.not_true, Bool.not_false]))
    exact hR0 (.inl h1)
  by_cases h2 : 1048576 < room
  · (repeat (first | refine stp ?_ | (apply BND_inc; omega) | (apply BND_dec; omega) | refine BND_step (rfl : some _ = some _) ?_ | (apply cyes; first | assumption | omega) | (apply cno; first | assumption | omega) | refine (COND_true _ _).2 ?_ | refine (COND_false _ _).2 ?_ | simp (disch := first | assumption | omega) only [gs1, gs2, decide_true, decide_false, eq_self, beq_self_eq_true, Bool.not_true, Bool.not_false]))
    exact hR0 (.inr h2)
  (repeat (first | refine stp ?_ | (apply BND_inc; omega) | (apply BND_dec; omega) | refine BND_step (rfl : some _ = some _) ?_ | (apply cyes; first | assumption | omega) | (apply cno; first | assumption | omega) | refine (COND_true _ _).2 ?_ | refine (COND_false _ _).2 ?_ | simp (disch := first | assumption | omega) only [gs1, gs2, decide_true, decide_false, eq_self, beq_self_eq_true, Bool.not_true, Bool.not_false]))
  refine newnil_step encE fun t w1 s1 f1 z1 => ?_
  obtain ⟨e, rfl⟩ := slc_sv s1
  refine newone_step (enc := encV) (x := e) encV_len rfl fun u w2 s2 f2 z2 => ?_
  obtain ⟨eu, rfl⟩ := slc_sv s2
  (repeat (first | (apply BND_build ([.int .i64 room, .slice none 0 0, eu.v, .int .i64 (-1), .bool false]); exact rfl) | refine stp ?_ | (apply BND_inc; omega) | (apply BND_dec; omega) | refine BND_step (rfl : some _ = some _) ?_ | (apply cyes; first | assumption | omega) | (apply cno; first | assumption | omega) | refine (COND_true _ _).2 ?_ | refine (COND_false _ _).2 ?_ | simp (disch := first | assumption | omega) only [gs1, gs2, decide_true, decide_false, eq_self, beq_self_eq_true, Bool.not_true, Bool.not_false]))
  refine NEW_intro fun w3 b3 f3 z3 => ?_
  (repeat (first | refine stp ?_ | (apply BND_inc; omega) | (apply BND_dec; omega) | refine BND_step (rfl : some _ = some _) ?_ | (apply cyes; first | assumption | omega) | (apply cno; first | assumption | omega) | refine (COND_true _ _).2 ?_ | refine (COND_false _ _).2 ?_ | simp (disch := first | assumption | omega) only [gs1, gs2, decide_true, decide_false, eq_self, beq_self_eq_true, Bool.not_true, Bool.not_false]))
  refine hR (by omega) w3 (hsz w2) (rf_shut (fv := .slice none 0 0) (dv := eu.v) (fc := []) (es := [e]) ⟨[hsz w2, hsz w1, hsz w], ?_, fun b hb => ?_, (f1.trans' f2).trans' f3⟩)
  · refine ⟨[hsz w2], [hsz w1, hsz w], ⟨⟨_, b3⟩, rfl⟩, ⟨[], [hsz w1, hsz w], Slc.nil _ _ _, ⟨[hsz w1, hsz w], [], ⟨fun b hb => ?_, ⟨[hsz w1], s2.fr f3 (by simp), by simp⟩, Ents.one ((s1.fr f2 (by simp)).fr f3 (by simp)) (by simp), ⟨rfl, fun i x h => by simp [empty] at h⟩⟩, ⟨trivial, rfl⟩, rfl, by simp⟩, rfl, by simp⟩, rfl, fun b hb hb' => ?_⟩
    · have := f3.grow
      simp at hb; omega
    · simp at hb hb'; omega
  · simp at hb
    right; omega
end
end Go.Proofs.Ytpefokoiioeomaa
