/- Load: the snapshot of any records, or that there is none: by the program. No condition but sizes. -/
import Derived.Test.YtkifjfjhghogjaaSnapSame
import Derived.Test.YtkifjfjhghogjaaStar
import Derived.Test.YtkifjfjhghogjaaMa
namespace Go.Proofs.Ytkifjfjhghogjaa
open Go.Den
set_option linter.unusedSimpArgs false
set_option linter.unusedVariables false
set_option maxRecDepth 20000
set_option maxHeartbeats 4000000
attribute [local congr] BND_cg COND_cg GEF_cg
attribute [local irreducible] load1 loadn iaddr iaddra faddr storev newslice binv lookv mupd mdel mlenv mentry mestore slicev slicev3 slices indexs indexav textv rangev nexts clearv shiftv eqaggv convi buildv pickv lens lenl unv nilchk extractv partn JOIN

/-! ## Plain -/
def U64 (n : Int) : Prop := 0 ≤ n ∧ n < 18446744073709551616
def NsU (ls : List LRec) : Prop := ∀ l ∈ ls, ∀ n ∈ l.ns, U64 n
def gathI (ls : List LRec) : List Itm := (ls.filter fun l => decide (l.k = 14)).map fun l => itemL l.ns
def gathD (ls : List LRec) : List Row := (ls.filter fun l => decide (l.k = 15)).map fun l => (l.ns.getD 0 0, l.ns.getD 1 0)
def gathC (ls : List LRec) : List Cur := (ls.filter fun l => decide (l.k = 16)).map fun l => (l.t, l.ns.getD 0 0)
def gath (b : List Int) (ls : List LRec) : SnapL := ⟨b.getD 0 0, b.getD 1 0, b.getD 2 0, b.getD 3 0, b.getD 4 0, gathI ls, gathD ls, gathC ls, b.getD 5 0, b.getD 6 0⟩
def midL (ls : List LRec) : List LRec := (ls.drop 1).take (ls.length - 2)
def tightL (l : LRec) : Bool := decide (l.k = 14 → l.ns.getD 1 0 ≤ 1000 ∧ l.ns.getD 2 0 ≤ 1000 ∧ l.ns.getD 3 0 ≤ 1000 ∧ l.ns.getD 9 0 ≤ 1000)
def baseL (ls : List LRec) : LRec := ls.getD 0 ⟨0, [], ⟨#[]⟩⟩
def preL (ls : List LRec) : Prop := 2 ≤ ls.length ∧ ls.all rightL = true ∧ (baseL ls).k = 13
def gotL (ls : List LRec) : SnapL := gath (baseL ls).ns (midL ls)
/-- what Load tells. -/
def loadsL (ls : List LRec) (s : SnapL) : Prop := preL ls ∧ (midL ls).all tightL = true ∧ s = gotL ls ∧ okS s = true ∧ saveL s = ls
def emptyS : SnapL := ⟨0, 0, 0, 0, 0, [], [], [], 0, 0⟩
def zSn : List Value := snC emptyS (.slice none 0 0) (.slice none 0 0) (.slice none 0 0)

theorem ten {ns : List Int} (h : ns.length = 10) : ∃ a b c d e f g i j k, ns = [a, b, c, d, e, f, g, i, j, k] := by
  match ns, h with
  | [a, b, c, d, e, f, g, i, j, k], _ => exact ⟨a, b, c, d, e, f, g, i, j, k, rfl⟩
theorem conv_small {n : Int} (h0 : 0 ≤ n) (h : n ≤ 1000) : convi .i64 (.int .u64 n) = some (.int .i64 n) := by
  unfold convi
  simp only
  rw [wrap_i64 (by omega) (by omega)]
section
variable {w : World} {R : Value → World → Prop}
theorem sn_item {v : Value} {ns : List Int} (h : Arr encU 1 w v ns) (h10 : ns.length = 10) (hu : ∀ n ∈ ns, U64 n) (h1 : ns.getD 1 0 ≤ 1000) (h2 : ns.getD 2 0 ≤ 1000) (h3 : ns.getD 3 0 ≤ 1000) (h9 : ns.getD 9 0 ≤ 1000)
    (hR : ∀ w', Fr [] w w' → R (.agg (encI (itemL ns)).toArray) w') : CALL PR F_snap_item [v] w R := by
  obtain ⟨n0, n1, n2, n3, n4, n5, n6, n7, n8, n9, rfl⟩ := ten h10
  have u1 := (hu n1 (by simp)).1
  have u2 := (hu n2 (by simp)).1
  have u3 := (hu n3 (by simp)).1
  have u9 := (hu n9 (by simp)).1
  refine C_snap_item ?_
  unfold M_snap_item
  refine NEW_intro fun w1 b1 f1 z1 => ?_
  have ha : Arr encU 1 w1 v _ := h.fr f1 (by simp)
  have hd : Arr encU 1 w1.drew v _ := ha.fr (Fr.drew [] _) (by simp)
  (repeat (first | (apply Arr.bui ha; exact ⟨by decide, rfl⟩) | (apply Arr.bul hd; exact rfl) | refine BND_step (conv_small u1 h1) ?_ | refine BND_step (conv_small u2 h2) ?_ | refine BND_step (conv_small u3 h3) ?_ | refine BND_step (conv_small u9 h9) ?_ | (apply BND_build ([.int .i64 n2, .int .i64 n3, .int .u64 n4, .int .u64 n5]); exact rfl) | (apply BND_build ([.int .u64 n7, .int .u64 n8, .int .i64 n9]); exact rfl) | (apply BND_build (encI (itemL [n0, n1, n2, n3, n4, n5, n6, n7, n8, n9])); exact rfl) | refine stp ?_ | (apply BND_inc; omega) | (apply BND_dec; omega) | refine BND_step rfl ?_ | (apply cyes; first | assumption | omega) | (apply cno; first | assumption | omega) | refine (COND_true _ _).2 ?_ | refine (COND_false _ _).2 ?_ | simp (disch := first | assumption | omega) only [gs1, gs2, decide_true, decide_false, eq_self, beq_self_eq_true, Bool.not_true, Bool.not_false]))
  have b1' : blk w1.drew (hsz w) = some (.cells zItm.toArray _ (0, 0)) := b1
  have f1' := f1.trans' (Fr.drew [] w1)
  generalize w1.drew = w2 at b1' f1'
  refine put_step b1' rfl (vs := encI (itemL [n0, n1, n2, n3, n4, n5, n6, n7, n8, n9])) rfl (encI_one _) (by simp [encI]) fun w3 b3 f3 z3 => ?_
  (repeat (first | refine BND_step (loadn_all b3 rfl) ?_ | refine stp ?_ | (apply BND_inc; omega) | (apply BND_dec; omega) | refine BND_step rfl ?_ | (apply cyes; first | assumption | omega) | (apply cno; first | assumption | omega) | refine (COND_true _ _).2 ?_ | refine (COND_false _ _).2 ?_ | simp (disch := first | assumption | omega) only [gs1, gs2, decide_true, decide_false, eq_self, beq_self_eq_true, Bool.not_true, Bool.not_false]))
  exact hR _ (f1'.trans f3 fun b hb => by simp at hb; subst hb; exact .inr (Nat.le_refl _))

/-- the snapshot that is put together, in its own block. -/
def ldL (S T : Nat) (s : SnapL) (iv dv cv : Value) : List HP := [slc encC 2 cv s.curs, slc encRow 2 dv s.dead, slc encI 10 iv s.items, pts T (snC s iv dv cv), pts S zSn]
def LdSt (w0 w : World) (S T : Nat) (s : SnapL) : Prop := ∃ iv dv cv, At w0 [] (stars (ldL S T s iv dv cv)) w
theorem LdSt.fr0 {w0 w w' : World} {S T : Nat} {s : SnapL} (h : LdSt w0 w S T s) (hf : Fr [] w w') : LdSt w0 w' S T s := by
  obtain ⟨iv, dv, cv, h⟩ := h
  exact ⟨iv, dv, cv, h.fr0 hf⟩
theorem LdSt.frame {w0 w : World} {S T : Nat} {s : SnapL} (h : LdSt w0 w S T s) : Fr [] w0 w := by
  obtain ⟨iv, dv, cv, h⟩ := h
  exact h.frame
theorem LdSt.cellS {w0 w : World} {S T : Nat} {s : SnapL} (h : LdSt w0 w S T s) : ∃ TS, blk w S = some (.cells zSn.toArray TS (0, 0)) := by
  obtain ⟨iv, dv, cv, h⟩ := h
  exact h.cell (i := 4) rfl
theorem LdSt.snV {w0 w : World} {S T : Nat} {s : SnapL} (h : LdSt w0 w S T s) : ∃ iv dv cv, At w0 [] (stars (ldL S T s iv dv cv)) w ∧ SnV w s iv dv cv := by
  obtain ⟨iv, dv, cv, h⟩ := h
  obtain ⟨A, h1, _⟩ := h.get 0 rfl
  obtain ⟨B, h2, _⟩ := h.get 1 rfl
  obtain ⟨C, h3, _⟩ := h.get 2 rfl
  exact ⟨iv, dv, cv, h, Slc.arr (F := C) h3, Slc.arr (F := B) h2, Slc.arr (F := A) h1⟩
theorem NsU.len10 {l : LRec} (hr : rightL l = true) (hk : l.k = 14) : l.ns.length = 10 := by
  unfold rightL rightR at hr
  rw [hk] at hr
  simp only [Bool.and_eq_true, decide_eq_true_eq] at hr
  simpa [numsT] using hr.1.2
theorem NsU.len2 {l : LRec} (hr : rightL l = true) (hk : l.k = 15) : l.ns.length = 2 := by
  unfold rightL rightR at hr
  rw [hk] at hr
  simp only [Bool.and_eq_true, decide_eq_true_eq] at hr
  simpa [numsT] using hr.1.2
theorem NsU.len1 {l : LRec} (hr : rightL l = true) (hk : l.k = 16) : l.ns.length = 1 := by
  unfold rightL rightR at hr
  rw [hk] at hr
  simp only [Bool.and_eq_true, decide_eq_true_eq] at hr
  simpa [numsT] using hr.1.2
theorem NsU.len7 {l : LRec} (hr : rightL l = true) (hk : l.k = 13) : l.ns.length = 7 := by
  unfold rightL rightR at hr
  rw [hk] at hr
  simp only [Bool.and_eq_true, decide_eq_true_eq] at hr
  simpa [numsT] using hr.1.2
theorem max2_u (a b : Int) : max2v (.int .u64 a) (.int .u64 b) = some (.int .u64 (if a < b then b else a)) := rfl
theorem max4_u (a b c d : Int) : ∃ m, (Option.bind (max2v (.int .u64 a) (.int .u64 b)) fun x => Option.bind (max2v x (.int .u64 c)) fun y => max2v y (.int .u64 d)) = some (.int .u64 m) ∧ (1000 < m ↔ ¬ (a ≤ 1000 ∧ b ≤ 1000 ∧ c ≤ 1000 ∧ d ≤ 1000)) := by
  refine ⟨_, rfl, ?_⟩
  split <;> split <;> split <;> omega
theorem two {ns : List Int} (h : ns.length = 2) : ∃ a b, ns = [a, b] := by
  match ns, h with
  | [a, b], _ => exact ⟨a, b, rfl⟩
theorem one {ns : List Int} (h : ns.length = 1) : ∃ a, ns = [a] := by
  match ns, h with
  | [a], _ => exact ⟨a, rfl⟩
theorem seven {ns : List Int} (h : ns.length = 7) : ∃ a b c d e f g, ns = [a, b, c, d, e, f, g] := by
  match ns, h with
  | [a, b, c, d, e, f, g], _ => exact ⟨a, b, c, d, e, f, g, rfl⟩
theorem midL_get {ls : List LRec} {i : Nat} (hi : i < ls.length - 2) : (midL ls)[i]? = ls[i + 1]? := by
  unfold midL
  rw [List.getElem?_take, if_pos hi, List.getElem?_drop, Nat.add_comm]
theorem midL_len (ls : List LRec) : (midL ls).length = ls.length - 2 := by
  unfold midL; rw [List.length_take, List.length_drop]; omega
theorem gath_snoc (b : List Int) (ls : List LRec) (l : LRec) : gath b (ls ++ [l]) = { gath b ls with items := gathI ls ++ (if l.k = 14 then [itemL l.ns] else []), dead := gathD ls ++ (if l.k = 15 then [(l.ns.getD 0 0, l.ns.getD 1 0)] else []), curs := gathC ls ++ (if l.k = 16 then [(l.t, l.ns.getD 0 0)] else []) } := by
  unfold gath gathI gathD gathC
  simp only [List.filter_append, List.map_append]
  congr 1
  · by_cases h : l.k = 14 <;> simp [h]
  · by_cases h : l.k = 15 <;> simp [h]
  · by_cases h : l.k = 16 <;> simp [h]
/-- the part of the records that is gone through. -/
theorem slicev3_at {sz : Nat} {a : Option Addr} {n cap l h : Nat} (h1 : h ≤ cap) (h2 : l ≤ h) : slicev3 sz (.slice a n cap) (some (.int .i64 (l : Int))) (.int .i64 (h : Int)) (.int .i64 (h : Int)) = some (.slice (if h = l then a else a.map (·.add (l * sz))) (h - l) (h - l)) := by
  unfold slicev3
  simp [natOf, h1, h2]
theorem RecsR.mid {w : World} {v : Value} {ls : List LRec} (h : RecsR w v ls) (hl : 2 ≤ ls.length) : ∃ v', slicev3 3 v (some (.int .i64 1)) (.int .i64 ((ls.length - 1 : Nat) : Int)) (.int .i64 ((ls.length - 1 : Nat) : Int)) = some v' ∧ RecsR w v' (midL ls) := by
  obtain ⟨rs, ⟨a, cap, rfl, h1⟩, h2, h3, a', n', c', e, hc⟩ := h
  cases e
  refine ⟨_, slicev3_at (l := 1) (by omega) (by omega), (rs.drop 1).take (rs.length - 2), ⟨if ls.length - 1 = 1 then a else a.map (·.add (1 * 3)), ls.length - 1 - 1, ?_, ?_⟩, by simp [midL_len]; omega, fun i r l hr hl' => ?_, ⟨_, _, _, rfl, Nat.le_refl _⟩⟩
  · congr 1; simp; omega
  · rcases h1 with rfl | ⟨b, o, c, T, fz, rfl, hb, hx⟩
    · simp at h2; omega
    · by_cases h0 : ls.length = 2
      · left
        rw [h2, h0]; rfl
      · right
        refine ⟨b, o + 3, c, T, fz, ?_, hb, fun i x hxi => ?_⟩
        · rw [if_neg (by omega)]; simp [add_none]
        · rw [List.getElem?_take] at hxi
          split at hxi
          · rw [List.getElem?_drop] at hxi
            obtain ⟨q1, q2⟩ := hx _ _ hxi
            rw [show o + (1 + i) * 3 = o + 3 + i * 3 by omega] at q1 q2
            exact ⟨q1, q2⟩
          · cases hxi
  · rw [List.getElem?_take] at hr
    split at hr
    · rw [List.getElem?_drop] at hr
      rw [midL_get (by omega)] at hl'
      exact h3 _ r l (by rw [Nat.add_comm]; exact hr) hl'
    · cases hr

theorem saveL_small (s : SnapL) : NsSmall (saveL s) := by
  intro l hl
  unfold saveL headL at hl
  simp only [List.mem_append, List.mem_cons, List.mem_map, List.not_mem_nil, or_false] at hl
  rcases hl with (rfl | ⟨x, _, rfl⟩ | ⟨x, _, rfl⟩ | ⟨x, _, rfl⟩) | rfl
  · simp [recB]
  · simp [recI]
  · simp [recD]
  · simp [recC]
  · simp [recE]
theorem saveL_len (s : SnapL) : (saveL s).length = s.items.length + s.dead.length + s.curs.length + 2 := by
  unfold saveL headL
  simp
  omega
theorem zSn_one : ∀ u ∈ zSn, u.oneCell' = true := by
  intro u hu
  simp only [zSn, snC, stC, List.mem_append, List.mem_cons, List.not_mem_nil, or_false] at hu
  rcases hu with (rfl | rfl | rfl | rfl | rfl | rfl | rfl | rfl) | rfl | rfl <;> rfl
theorem sn_Load {a : Value} {ls : List LRec} (h : RecsR w a ls) (hn : ls.length < 100000) (hs : ∀ l ∈ ls, l.ns.length < 1000000) (hu : NsU ls)
    (hno : ∀ w', Fr [] w w' → (∀ s, ¬ loadsL ls s) → R (.tuple #[.agg zSn.toArray, .int .i64 2]) w') (hyes : ∀ w' s iv dv cv, Fr [] w w' → loadsL ls s → SnV w' s iv dv cv → R (.tuple #[.agg (snC s iv dv cv).toArray, .int .i64 0]) w') :
    CALL PR F_snap_Load [a] w R := by
  refine C_snap_Load ?_
  unfold M_snap_Load
  refine NEW_intro fun w1 b1 f1 z1 => ?_
  obtain ⟨TS, b1⟩ : ∃ T, blk w1 (hsz w) = some (.cells zSn.toArray T (0, 0)) := ⟨_, b1⟩
  have err : ∀ w2, Fr [] w w2 → (∃ TS, blk w2 (hsz w) = some (.cells zSn.toArray TS (0, 0))) → (∀ s, ¬ loadsL ls s) →
      BND (buildv #[(Value.int .u64 0), (Value.int .u64 0), (Value.int .u64 0), (Value.int .u64 0), (Value.int .u64 0), (Value.slice none 0 0), (Value.slice none 0 0), (Value.slice none 0 0), (Value.int .u64 0), (Value.int .u64 0)] []) fun t25_13 =>
      BND (storev 10 w2 (.pointer (some ⟨hsz w, 0, none⟩)) t25_13) fun w3 => BND (loadn 10 w3 (.pointer (some ⟨hsz w, 0, none⟩))) fun r_14 => R (.tuple #[r_14, (Value.int .i64 2)]) w3 := by
    rintro w2 f2 ⟨TS, b2⟩ hx
    refine BND_step (build_at (vs := zSn) rfl) <| put_step b2 rfl (vs := zSn) rfl zSn_one (by simp [zSn, snC, stC]) fun w3 b3 f3 z3 => BND_step (loadn_all b3 rfl) ?_
    exact hno w3 (f2.trans f3 fun b hb => by simp at hb; subst hb; exact .inr (Nat.le_refl _)) hx
  have h1 := h.fr0 f1
  (repeat (first | refine BND_step h1.len ?_ | refine stp ?_ | (apply BND_inc; omega) | (apply BND_dec; omega) | refine BND_step rfl ?_ | (apply cyes; first | assumption | omega) | (apply cno; first | assumption | omega) | refine (COND_true _ _).2 ?_ | refine (COND_false _ _).2 ?_ | simp (disch := first | assumption | omega) only [gs1, gs2, decide_true, decide_false, eq_self, beq_self_eq_true, Bool.not_true, Bool.not_false]))
  by_cases h2 : ls.length < 2
  · (repeat (first | refine stp ?_ | (apply BND_inc; omega) | (apply BND_dec; omega) | refine BND_step rfl ?_ | (apply cyes; first | assumption | omega) | (apply cno; first | assumption | omega) | refine (COND_true _ _).2 ?_ | refine (COND_false _ _).2 ?_ | simp (disch := first | assumption | omega) only [gs1, gs2, decide_true, decide_false, eq_self, beq_self_eq_true, Bool.not_true, Bool.not_false]))
    exact err w1 f1 ⟨_, b1⟩ fun s hl => by have := hl.1.1; omega
  (repeat (first | refine stp ?_ | (apply BND_inc; omega) | (apply BND_dec; omega) | refine BND_step rfl ?_ | (apply cyes; first | assumption | omega) | (apply cno; first | assumption | omega) | refine (COND_true _ _).2 ?_ | refine (COND_false _ _).2 ?_ | simp (disch := first | assumption | omega) only [gs1, gs2, decide_true, decide_false, eq_self, beq_self_eq_true, Bool.not_true, Bool.not_false]))
  have h0 : ls[0]? = some (baseL ls) := by
    unfold baseL
    rw [List.getD_eq_getElem?_getD, List.getElem?_eq_getElem (by omega)]; rfl
  refine sl_Contains h1 (by omega) fun w2 f2 => ?_
  have f02 := f1.trans' f2
  have b2 := f2.some (by simp) b1
  cases hall : ls.all rightL with
  | false =>
    (repeat (first | refine stp ?_ | (apply BND_inc; omega) | (apply BND_dec; omega) | refine BND_step rfl ?_ | (apply cyes; first | assumption | omega) | (apply cno; first | assumption | omega) | refine (COND_true _ _).2 ?_ | refine (COND_false _ _).2 ?_ | simp (disch := first | assumption | omega) only [gs1, gs2, decide_true, decide_false, eq_self, beq_self_eq_true, Bool.not_true, Bool.not_false]))
    exact err w2 f02 ⟨_, b2⟩ fun s hl => by have := hl.1.2.1; rw [hall] at this; cases this
  | true =>
  obtain ⟨r0, B0, o0, g0, i0, _, _, l0⟩ := (h.fr0 f02).spot h0
  (repeat (first | refine BND_step i0 ?_ | refine BND_step (l0 (w' := w2) rfl (j := 0) rfl) ?_ | refine stp ?_ | (apply BND_inc; omega) | (apply BND_dec; omega) | refine BND_step rfl ?_ | (apply cyes; first | assumption | omega) | (apply cno; first | assumption | omega) | refine (COND_true _ _).2 ?_ | refine (COND_false _ _).2 ?_ | simp (disch := first | assumption | omega) only [gs1, gs2, decide_true, decide_false, eq_self, beq_self_eq_true, Bool.not_true, Bool.not_false]))
  by_cases hk : r0.k = 13
  · have hbk : (baseL ls).k = 13 := by rw [← g0.1, hk]
    have hpre : preL ls := ⟨by omega, hall, hbk⟩
    have hr0 : rightL (baseL ls) = true := List.all_eq_true.1 hall _ (List.mem_of_getElem? h0)
    (repeat (first | refine BND_step i0 ?_ | refine BND_step (l0 (w' := w2) rfl (j := 1) rfl) ?_ | refine stp ?_ | (apply BND_inc; omega) | (apply BND_dec; omega) | refine BND_step rfl ?_ | (apply cyes; first | assumption | omega) | (apply cno; first | assumption | omega) | refine (COND_true _ _).2 ?_ | refine (COND_false _ _).2 ?_ | simp (disch := first | assumption | omega) only [gs1, gs2, decide_true, decide_false, eq_self, beq_self_eq_true, Bool.not_true, Bool.not_false]))
    obtain ⟨_, _, n0⟩ := g0
    generalize hbn : (baseL ls).ns = bn at n0
    obtain ⟨m0, m1, m2, m3, m4, m5, m6, rfl⟩ := seven (ns := bn) (by rw [← hbn]; exact NsU.len7 hr0 hbk)
    have nd : Arr encU 1 w2.drew r0.nv _ := n0.fr (Fr.drew [] _) (by simp)
    refine ⟨fun _ w' => Arr encU 1 w' r0.nv [m0, m1, m2, m3, m4, m5, m6], nd, nd, nd, nd, nd, nd, nd, ?_⟩
    (repeat (first | (apply Arr.bui n0; exact ⟨by decide, rfl⟩) | (apply FLT_ul (fun _ h_ => h_); exact rfl) | (apply BND_build ([.int .u64 m0, .int .u64 m1, .int .u64 m2, .int .u64 m3, .int .u64 m4, .slice none 0 0, .slice none 0 0, .slice none 0 0]); exact rfl) | (apply BND_build (snC (gath [m0, m1, m2, m3, m4, m5, m6] []) (.slice none 0 0) (.slice none 0 0) (.slice none 0 0)); exact rfl) | refine stp ?_ | (apply BND_inc; omega) | (apply BND_dec; omega) | refine BND_step rfl ?_ | (apply cyes; first | assumption | omega) | (apply cno; first | assumption | omega) | refine (COND_true _ _).2 ?_ | refine (COND_false _ _).2 ?_ | simp (disch := first | assumption | omega) only [gs1, gs2, decide_true, decide_false, eq_self, beq_self_eq_true, Bool.not_true, Bool.not_false]))
    have fd : Fr [] w2 w2.drew := Fr.drew [] w2
    generalize w2.drew = w3 at nd fd
    refine NEW_intro fun w4 b4 f4 z4 => ?_
    have n4 : Arr encU 1 w4 r0.nv _ := nd.fr f4 (by simp)
    refine ⟨n4, n4, n4, n4, n4, n4, n4, ?_⟩
    have st0 : At w [] (stars [pts (hsz w) zSn]) w2 := (At.nothing w).add f02 ⟨⟨_, b2⟩, rfl⟩ (by simp)
    have st1 := (st0.fr0 fd).add f4 (P := pts (hsz w3) zSn) ⟨⟨_, b4⟩, rfl⟩ (by simp)
    have z0 : (gath [m0, m1, m2, m3, m4, m5, m6] []).items = [] := rfl
    refine st1.put (i := 0) rfl rfl (vs := snC (gath [m0, m1, m2, m3, m4, m5, m6] []) (.slice none 0 0) (.slice none 0 0) (.slice none 0 0)) rfl ?_ (by simp [snC, stC]) fun w5 st5 f5 => ?_
    · intro u hu
      simp only [snC, stC, List.mem_append, List.mem_cons, List.not_mem_nil, or_false] at hu
      rcases hu with (rfl | rfl | rfl | rfl | rfl | rfl | rfl | rfl) | rfl | rfl <;> rfl
    generalize hbm : [m0, m1, m2, m3, m4, m5, m6] = bn at *
    have fw5 : Fr [] w w5 := st5.frame
    obtain ⟨v', e', hm⟩ := h.mid (by omega)
    have hml := midL_len ls
    have st5' : LdSt w w5 (hsz w) (hsz w3) (gath bn []) := ⟨_, _, _, ((st5.add0 (P := slc encI 10 (.slice none 0 0) []) (Slc.nil _ _ _)).add0 (P := slc encRow 2 (.slice none 0 0) []) (Slc.nil _ _ _)).add0 (P := slc encC 2 (.slice none 0 0) []) (Slc.nil _ _ _)⟩
    (repeat (first | refine BND_step h1.len ?_ | refine BND_step e' ?_ | refine BND_step hm.len ?_ | refine stp ?_ | (apply BND_inc; omega) | (apply BND_dec; omega) | refine BND_step rfl ?_ | (apply cyes; first | assumption | omega) | (apply cno; first | assumption | omega) | refine (COND_true _ _).2 ?_ | refine (COND_false _ _).2 ?_ | simp (disch := first | assumption | omega) only [gs1, gs2, decide_true, decide_false, eq_self, beq_self_eq_true, Bool.not_true, Bool.not_false]))
    refine loop_up 0 (midL ls).length (fun i w' => LdSt w w' (hsz w) (hsz w3) (gath bn ((midL ls).take i)) ∧ ((midL ls).take i).all tightL = true) ⟨st5', rfl⟩ (by omega) ?_
    rintro i w6 - hi ⟨g6, t6⟩ J m hJ
    by_cases hlt : i < (midL ls).length
    · have hx := List.getElem?_eq_getElem hlt
      generalize hlx : (midL ls)[i] = l at hx
      have hlin : l ∈ ls := by
        have := List.mem_of_getElem? hx
        unfold midL at this
        exact List.drop_subset _ _ (List.take_subset _ _ this)
      have hrl := List.all_eq_true.1 hall l hlin
      have htake : (midL ls).take (i + 1) = (midL ls).take i ++ [l] := by rw [List.take_add_one, hx]; rfl
      have hcnt : ((midL ls).take i).length ≤ 100000 := by rw [List.length_take]; omega
      obtain ⟨r, B1, o1, g1, i1, n1, _, _⟩ := (hm.fr0 g6.frame).spot hx
      (repeat (first | refine BND_step i1 ?_ | refine BND_step n1 ?_ | refine stp ?_ | (apply BND_inc; omega) | (apply BND_dec; omega) | refine BND_step rfl ?_ | (apply cyes; first | assumption | omega) | (apply cno; first | assumption | omega) | refine (COND_true _ _).2 ?_ | refine (COND_false _ _).2 ?_ | simp (disch := first | assumption | omega) only [gs1, gs2, decide_true, decide_false, eq_self, beq_self_eq_true, Bool.not_true, Bool.not_false]))
      refine box_step rfl rfl (encR_one r) (by simp [encR]) fun w8 b8 f8 z8 => ?_
      obtain ⟨TB, b8⟩ : ∃ T, blk w8 (hsz w6) = some (.cells [.int .i64 r.k, r.nv, .string r.t].toArray T (0, 0)) := ⟨_, b8⟩
      have b8d : blk w8.drew (hsz w6) = some (.cells [.int .i64 r.k, r.nv, .string r.t].toArray TB (0, 0)) := b8
      have g8 := (g6.fr0 f8)
      obtain ⟨rk, rt, rn⟩ := g1.fr f8 (by simp)
      have rnd : Arr encU 1 w8.drew r.nv l.ns := rn.fr (Fr.drew [] _) (by simp)
      (repeat (first | (apply BND_ld b8; exact rfl) | refine stp ?_ | (apply BND_inc; omega) | (apply BND_dec; omega) | refine BND_step rfl ?_ | (apply cyes; first | assumption | omega) | (apply cno; first | assumption | omega) | refine (COND_true _ _).2 ?_ | refine (COND_false _ _).2 ?_ | simp (disch := first | assumption | omega) only [gs1, gs2, decide_true, decide_false, eq_self, beq_self_eq_true, Bool.not_true, Bool.not_false]))
      refine join_w (fun w' => LdSt w w' (hsz w) (hsz w3) (gath bn ((midL ls).take (i + 1))) ∧ ((midL ls).take (i + 1)).all tightL = true) (fun K hK => ?_) (fun w9 hg9 => ?_)
      · by_cases k14 : r.k = 14
        · have lk : l.k = 14 := by rw [← rk]; exact k14
          have eg : gath bn ((midL ls).take (i + 1)) = { gath bn ((midL ls).take i) with items := (gath bn ((midL ls).take i)).items ++ [itemL l.ns] } := by
            rw [htake, gath_snoc]; simp [lk]; exact ⟨rfl, rfl, rfl⟩
          have hun := hu l hlin
          have h10 := NsU.len10 hrl lk
          generalize hns : l.ns = ns at *
          obtain ⟨n0, n1, n2, n3, n4, n5, n6, n7, n8, n9, rfl⟩ := ten h10
          obtain ⟨m, em, hm4⟩ := max4_u n1 n2 n3 n9
          (repeat (first | (apply BND_ld b8d; exact rfl) | (apply Arr.bui rnd; exact ⟨by decide, rfl⟩) | (apply Arr.bul rnd; exact rfl) | refine BND_step em ?_ | refine stp ?_ | (apply BND_inc; omega) | (apply BND_dec; omega) | refine BND_step rfl ?_ | (apply cyes; first | assumption | omega) | (apply cno; first | assumption | omega) | refine (COND_true _ _).2 ?_ | refine (COND_false _ _).2 ?_ | simp (disch := first | assumption | omega) only [gs1, gs2, decide_true, decide_false, eq_self, beq_self_eq_true, Bool.not_true, Bool.not_false]))
          by_cases hm1 : 1000 < m
          · (repeat (first | refine stp ?_ | (apply BND_inc; omega) | (apply BND_dec; omega) | refine BND_step rfl ?_ | (apply cyes; first | assumption | omega) | (apply cno; first | assumption | omega) | refine (COND_true _ _).2 ?_ | refine (COND_false _ _).2 ?_ | simp (disch := first | assumption | omega) only [gs1, gs2, decide_true, decide_false, eq_self, beq_self_eq_true, Bool.not_true, Bool.not_false]))
            refine err _ ((g8.frame.trans' (Fr.drew _ _))) (g8.fr0 (Fr.drew _ _)).cellS fun s hl => ?_
            have := List.all_eq_true.1 hl.2.1 l (List.mem_of_getElem? hx)
            unfold tightL at this
            simp only [decide_eq_true_eq] at this
            refine hm4.1 hm1 ?_
            have h := this lk
            rw [hns] at h
            exact h
          · have hsm : n1 ≤ 1000 ∧ n2 ≤ 1000 ∧ n3 ≤ 1000 ∧ n9 ≤ 1000 := Classical.byContradiction fun h => hm1 (hm4.2 h)
            obtain ⟨iv, dv, cv, st⟩ := (g8.fr0 (Fr.drew _ _)).fr0 (Fr.drew _ _)
            have b8e : blk w8.drew.drew (hsz w6) = some (.cells [.int .i64 r.k, r.nv, .string r.t].toArray TB (0, 0)) := b8
            have rne : Arr encU 1 w8.drew.drew r.nv _ := rnd.fr (Fr.drew [] _) (by simp)
            (repeat (first | refine stp ?_ | (apply BND_inc; omega) | (apply BND_dec; omega) | refine BND_step rfl ?_ | (apply cyes; first | assumption | omega) | (apply cno; first | assumption | omega) | refine (COND_true _ _).2 ?_ | refine (COND_false _ _).2 ?_ | simp (disch := first | assumption | omega) only [gs1, gs2, decide_true, decide_false, eq_self, beq_self_eq_true, Bool.not_true, Bool.not_false]))
            generalize w8.drew.drew = wa at st b8e rne
            obtain ⟨TT, ct⟩ := st.cell (i := 3) rfl
            refine ⟨fun _ w' => blk w' (hsz w3) = some (.cells (snC (gath bn ((midL ls).take i)) iv dv cv).toArray TT (0, 0)), ct, ?_⟩
            (repeat (first | (apply BND_ld b8e; exact rfl) | (apply FLT_ld (fun _ h_ => h_); exact rfl) | refine stp ?_ | (apply BND_inc; omega) | (apply BND_dec; omega) | refine BND_step rfl ?_ | (apply cyes; first | assumption | omega) | (apply cno; first | assumption | omega) | refine (COND_true _ _).2 ?_ | refine (COND_false _ _).2 ?_ | simp (disch := first | assumption | omega) only [gs1, gs2, decide_true, decide_false, eq_self, beq_self_eq_true, Bool.not_true, Bool.not_false]))
            refine sn_item rne rfl hun hsm.1 hsm.2.1 hsm.2.2.1 hsm.2.2.2 fun w11 f11 => ⟨f11.some (by simp) ct, newone_step encI_len rfl fun t94 w12 s12 f12 z12 => ⟨f12.some (by simp) (f11.some (by simp) ct), ?_⟩⟩
            refine ((st.fr0 f11).fr0 f12).append (i := 2) rfl (s12.loads encI_len) encI_len encI_one rfl (by omega) (by simp [gath, gathI]; have := List.length_filter_le (fun l => decide (l.k = 14)) ((midL ls).take i); simp at this; omega) fun v1 w13 st13 one13 => ?_
            (repeat (first | refine stp ?_ | (apply BND_inc; omega) | (apply BND_dec; omega) | refine BND_step rfl ?_ | (apply cyes; first | assumption | omega) | (apply cno; first | assumption | omega) | refine (COND_true _ _).2 ?_ | refine (COND_false _ _).2 ?_ | simp (disch := first | assumption | omega) only [gs1, gs2, decide_true, decide_false, eq_self, beq_self_eq_true, Bool.not_true, Bool.not_false]))
            refine st13.store (i := 3) rfl one13 (by simp [snC, stC]) fun w14 st14 f14 => hK w14 ⟨⟨v1, dv, cv, ?_⟩, ?_⟩
            · rw [eg]; exact st14
            · rw [htake, List.all_append, t6]
              simp [tightL, lk, hns, hsm]
        · (repeat (first | refine stp ?_ | (apply BND_inc; omega) | (apply BND_dec; omega) | refine BND_step rfl ?_ | (apply cyes; first | assumption | omega) | (apply cno; first | assumption | omega) | refine (COND_true _ _).2 ?_ | refine (COND_false _ _).2 ?_ | simp (disch := first | assumption | omega) only [gs1, gs2, decide_true, decide_false, eq_self, beq_self_eq_true, Bool.not_true, Bool.not_false]))
          refine join_w (fun w' => LdSt w w' (hsz w) (hsz w3) (gath bn ((midL ls).take (i + 1)))) (fun K2 hK2 => ?_) (fun w9 hg9 => hK w9 ⟨hg9, ?_⟩)
          · by_cases k15 : r.k = 15
            · have lk : l.k = 15 := by rw [← rk]; exact k15
              have eg : gath bn ((midL ls).take (i + 1)) = { gath bn ((midL ls).take i) with dead := (gath bn ((midL ls).take i)).dead ++ [(l.ns.getD 0 0, l.ns.getD 1 0)] } := by
                rw [htake, gath_snoc]; simp [lk]; exact ⟨rfl, rfl, rfl⟩
              have h10 := NsU.len2 hrl lk
              generalize hns : l.ns = ns at *
              obtain ⟨n0, n1, rfl⟩ := two h10
              obtain ⟨iv, dv, cv, st⟩ := g8.fr0 (Fr.drew _ _)
              (repeat (first | refine stp ?_ | (apply BND_inc; omega) | (apply BND_dec; omega) | refine BND_step rfl ?_ | (apply cyes; first | assumption | omega) | (apply cno; first | assumption | omega) | refine (COND_true _ _).2 ?_ | refine (COND_false _ _).2 ?_ | simp (disch := first | assumption | omega) only [gs1, gs2, decide_true, decide_false, eq_self, beq_self_eq_true, Bool.not_true, Bool.not_false]))
              generalize w8.drew = wa at st b8d rnd
              obtain ⟨TT, ct⟩ := st.cell (i := 3) rfl
              refine ⟨fun _ w' => blk w' (hsz w3) = some (.cells (snC (gath bn ((midL ls).take i)) iv dv cv).toArray TT (0, 0)), ct, ?_⟩
              (repeat (first | (apply BND_ld b8d; exact rfl) | (apply FLT_ld (fun _ h_ => h_); exact rfl) | (apply Arr.bui rnd; exact ⟨by decide, rfl⟩) | (apply Arr.bul rnd; exact rfl) | (apply BND_build (encRow (n0, n1)); exact rfl) | refine stp ?_ | (apply BND_inc; omega) | (apply BND_dec; omega) | refine BND_step rfl ?_ | (apply cyes; first | assumption | omega) | (apply cno; first | assumption | omega) | refine (COND_true _ _).2 ?_ | refine (COND_false _ _).2 ?_ | simp (disch := first | assumption | omega) only [gs1, gs2, decide_true, decide_false, eq_self, beq_self_eq_true, Bool.not_true, Bool.not_false]))
              refine newone_step encRow_len rfl fun t94 w12 s12 f12 z12 => ⟨f12.some (by simp) ct, ?_⟩
              refine (st.fr0 f12).append (i := 1) rfl (s12.loads encRow_len) encRow_len encRow_one rfl (by omega) (by simp [gath, gathD]; have := List.length_filter_le (fun l => decide (l.k = 15)) ((midL ls).take i); simp at this; omega) fun v1 w13 st13 one13 => ?_
              (repeat (first | refine stp ?_ | (apply BND_inc; omega) | (apply BND_dec; omega) | refine BND_step rfl ?_ | (apply cyes; first | assumption | omega) | (apply cno; first | assumption | omega) | refine (COND_true _ _).2 ?_ | refine (COND_false _ _).2 ?_ | simp (disch := first | assumption | omega) only [gs1, gs2, decide_true, decide_false, eq_self, beq_self_eq_true, Bool.not_true, Bool.not_false]))
              refine st13.store (i := 3) rfl one13 (by simp [snC, stC]) fun w14 st14 f14 => hK2 w14 ⟨iv, v1, cv, ?_⟩
              rw [eg]; exact st14
            · (repeat (first | refine stp ?_ | (apply BND_inc; omega) | (apply BND_dec; omega) | refine BND_step rfl ?_ | (apply cyes; first | assumption | omega) | (apply cno; first | assumption | omega) | refine (COND_true _ _).2 ?_ | refine (COND_false _ _).2 ?_ | simp (disch := first | assumption | omega) only [gs1, gs2, decide_true, decide_false, eq_self, beq_self_eq_true, Bool.not_true, Bool.not_false]))
              refine join_w (fun w' => LdSt w w' (hsz w) (hsz w3) (gath bn ((midL ls).take (i + 1)))) (fun K3 hK3 => ?_) (fun w9 hg9 => hK2 w9 hg9)
              by_cases k16 : r.k = 16
              · have lk : l.k = 16 := by rw [← rk]; exact k16
                have eg : gath bn ((midL ls).take (i + 1)) = { gath bn ((midL ls).take i) with curs := (gath bn ((midL ls).take i)).curs ++ [(l.t, l.ns.getD 0 0)] } := by
                  rw [htake, gath_snoc]; simp [lk]; exact ⟨rfl, rfl, rfl⟩
                have h10 := NsU.len1 hrl lk
                generalize hns : l.ns = ns at *
                obtain ⟨n0, rfl⟩ := one h10
                obtain ⟨iv, dv, cv, st⟩ := g8.fr0 (Fr.drew _ _)
                (repeat (first | refine stp ?_ | (apply BND_inc; omega) | (apply BND_dec; omega) | refine BND_step rfl ?_ | (apply cyes; first | assumption | omega) | (apply cno; first | assumption | omega) | refine (COND_true _ _).2 ?_ | refine (COND_false _ _).2 ?_ | simp (disch := first | assumption | omega) only [gs1, gs2, decide_true, decide_false, eq_self, beq_self_eq_true, Bool.not_true, Bool.not_false]))
                generalize w8.drew = wa at st b8d rnd
                obtain ⟨TT, ct⟩ := st.cell (i := 3) rfl
                refine ⟨fun _ w' => blk w' (hsz w3) = some (.cells (snC (gath bn ((midL ls).take i)) iv dv cv).toArray TT (0, 0)), ct, ?_⟩
                rw [rt] at b8d
                (repeat (first | (apply BND_ld b8d; exact rfl) | (apply FLT_ld (fun _ h_ => h_); exact rfl) | (apply Arr.bui rnd; exact ⟨by decide, rfl⟩) | (apply Arr.bul rnd; exact rfl) | (apply BND_build (encC (l.t, n0)); exact rfl) | refine stp ?_ | (apply BND_inc; omega) | (apply BND_dec; omega) | refine BND_step rfl ?_ | (apply cyes; first | assumption | omega) | (apply cno; first | assumption | omega) | refine (COND_true _ _).2 ?_ | refine (COND_false _ _).2 ?_ | simp (disch := first | assumption | omega) only [gs1, gs2, decide_true, decide_false, eq_self, beq_self_eq_true, Bool.not_true, Bool.not_false]))
                refine newone_step encC_len rfl fun t94 w12 s12 f12 z12 => ⟨f12.some (by simp) ct, ?_⟩
                refine (st.fr0 f12).append (i := 0) rfl (s12.loads encC_len) encC_len encC_one rfl (by omega) (by simp [gath, gathC]; have := List.length_filter_le (fun l => decide (l.k = 16)) ((midL ls).take i); simp at this; omega) fun v1 w13 st13 one13 => ?_
                (repeat (first | refine stp ?_ | (apply BND_inc; omega) | (apply BND_dec; omega) | refine BND_step rfl ?_ | (apply cyes; first | assumption | omega) | (apply cno; first | assumption | omega) | refine (COND_true _ _).2 ?_ | refine (COND_false _ _).2 ?_ | simp (disch := first | assumption | omega) only [gs1, gs2, decide_true, decide_false, eq_self, beq_self_eq_true, Bool.not_true, Bool.not_false]))
                refine st13.store (i := 3) rfl one13 (by simp [snC, stC]) fun w14 st14 f14 => hK3 w14 ⟨iv, dv, v1, ?_⟩
                rw [eg]; exact st14
              · (repeat (first | refine stp ?_ | (apply BND_inc; omega) | (apply BND_dec; omega) | refine BND_step rfl ?_ | (apply cyes; first | assumption | omega) | (apply cno; first | assumption | omega) | refine (COND_true _ _).2 ?_ | refine (COND_false _ _).2 ?_ | simp (disch := first | assumption | omega) only [gs1, gs2, decide_true, decide_false, eq_self, beq_self_eq_true, Bool.not_true, Bool.not_false]))
                refine hK3 _ ?_
                have eg : gath bn ((midL ls).take (i + 1)) = gath bn ((midL ls).take i) := by
                  rw [htake, gath_snoc]
                  have h1 : ¬ l.k = 14 := by rw [← rk]; exact k14
                  have h2 : ¬ l.k = 15 := by rw [← rk]; exact k15
                  have h3 : ¬ l.k = 16 := by rw [← rk]; exact k16
                  simp [h1, h2, h3]; rfl
                rw [eg]; exact g8
          · rw [htake, List.all_append, t6]
            have : ¬ l.k = 14 := by rw [← rk]; exact k14
            simp [tightL, this]
      · (repeat (first | refine stp ?_ | (apply BND_inc; omega) | (apply BND_dec; omega) | refine BND_step rfl ?_ | (apply cyes; first | assumption | omega) | (apply cno; first | assumption | omega) | refine (COND_true _ _).2 ?_ | refine (COND_false _ _).2 ?_ | simp (disch := first | assumption | omega) only [gs1, gs2, decide_true, decide_false, eq_self, beq_self_eq_true, Bool.not_true, Bool.not_false]))
        exact hJ _ hlt hg9
    · rw [List.take_of_length_le (by omega)] at g6 t6
      obtain ⟨iv, dv, cv, st, sv⟩ := g6.snV
      obtain ⟨TT, ct⟩ := st.cell (i := 3) rfl
      have egot : gath bn (midL ls) = gotL ls := by unfold gotL; rw [hbn]
      have lI : (gath bn (midL ls)).items.length ≤ (midL ls).length := by simp only [gath, gathI, List.length_map]; exact List.length_filter_le _ _
      have lD : (gath bn (midL ls)).dead.length ≤ (midL ls).length := by simp only [gath, gathD, List.length_map]; exact List.length_filter_le _ _
      have lC : (gath bn (midL ls)).curs.length ≤ (midL ls).length := by simp only [gath, gathC, List.length_map]; exact List.length_filter_le _ _
      generalize gath bn (midL ls) = sn at *
      (repeat (first | refine BND_step (loadn_all ct rfl) ?_ | refine stp ?_ | (apply BND_inc; omega) | (apply BND_dec; omega) | refine BND_step rfl ?_ | (apply cyes; first | assumption | omega) | (apply cno; first | assumption | omega) | refine (COND_true _ _).2 ?_ | refine (COND_false _ _).2 ?_ | simp (disch := first | assumption | omega) only [gs1, gs2, decide_true, decide_false, eq_self, beq_self_eq_true, Bool.not_true, Bool.not_false]))
      refine sn_Save sv (by omega) (by omega) (by omega) (fun w7 f7 hok => ?_) (fun w7 pv f7 hok hp => ?_)
      · (repeat (first | refine stp ?_ | (apply BND_inc; omega) | (apply BND_dec; omega) | refine BND_step rfl ?_ | (apply cyes; first | assumption | omega) | (apply cno; first | assumption | omega) | refine (COND_true _ _).2 ?_ | refine (COND_false _ _).2 ?_ | simp (disch := first | assumption | omega) only [gs1, gs2, decide_true, decide_false, eq_self, beq_self_eq_true, Bool.not_true, Bool.not_false]))
        exact err w7 (g6.frame.trans' f7) (g6.fr0 f7).cellS fun s hl => by
          have := hl.2.2.2.1; rw [hl.2.2.1, ← egot, hok] at this; cases this
      · (repeat (first | refine stp ?_ | (apply BND_inc; omega) | (apply BND_dec; omega) | refine BND_step rfl ?_ | (apply cyes; first | assumption | omega) | (apply cno; first | assumption | omega) | refine (COND_true _ _).2 ?_ | refine (COND_false _ _).2 ?_ | simp (disch := first | assumption | omega) only [gs1, gs2, decide_true, decide_false, eq_self, beq_self_eq_true, Bool.not_true, Bool.not_false]))
        refine sl_EqualRec hp (h.fr0 (g6.frame.trans' f7)) (by rw [saveL_len]; omega) (saveL_small _) fun w8 f8 => ?_
        have st8 := (st.fr0 f7).fr0 f8
        by_cases hsame : saveL sn = ls
        · (repeat (first | (apply BND_step; exact (loadn_all (f8.some (by simp) (f7.some (by simp) ct)) rfl)) | refine stp ?_ | (apply BND_inc; omega) | (apply BND_dec; omega) | refine BND_step rfl ?_ | (apply cyes; first | assumption | omega) | (apply cno; first | assumption | omega) | refine (COND_true _ _).2 ?_ | refine (COND_false _ _).2 ?_ | simp (disch := first | assumption | omega) only [gs1, gs2, decide_true, decide_false, eq_self, beq_self_eq_true, Bool.not_true, Bool.not_false]))
          refine st8.put (i := 4) rfl rfl rfl (snC_one sv) (by simp [snC, stC]) fun w9 st9 f9 => ?_
          obtain ⟨TS9, c9⟩ := st9.cell (i := 4) rfl
          (repeat (first | refine BND_step (loadn_all c9 rfl) ?_ | refine stp ?_ | (apply BND_inc; omega) | (apply BND_dec; omega) | refine BND_step rfl ?_ | (apply cyes; first | assumption | omega) | (apply cno; first | assumption | omega) | refine (COND_true _ _).2 ?_ | refine (COND_false _ _).2 ?_ | simp (disch := first | assumption | omega) only [gs1, gs2, decide_true, decide_false, eq_self, beq_self_eq_true, Bool.not_true, Bool.not_false]))
          obtain ⟨_, h1, _⟩ := st9.get 0 rfl
          obtain ⟨_, h2, _⟩ := st9.get 1 rfl
          obtain ⟨_, h3, _⟩ := st9.get 2 rfl
          exact hyes w9 sn iv dv cv st9.frame ⟨hpre, t6, egot, hok, hsame⟩ ⟨Slc.arr h3, Slc.arr h2, Slc.arr h1⟩
        · (repeat (first | refine stp ?_ | (apply BND_inc; omega) | (apply BND_dec; omega) | refine BND_step rfl ?_ | (apply cyes; first | assumption | omega) | (apply cno; first | assumption | omega) | refine (COND_true _ _).2 ?_ | refine (COND_false _ _).2 ?_ | simp (disch := first | assumption | omega) only [gs1, gs2, decide_true, decide_false, eq_self, beq_self_eq_true, Bool.not_true, Bool.not_false]))
          exact err w8 st8.frame (st8.cell (i := 4) rfl) fun s hl => hsame (by rw [egot, ← hl.2.2.1]; exact hl.2.2.2.2)
  · (repeat (first | refine stp ?_ | (apply BND_inc; omega) | (apply BND_dec; omega) | refine BND_step rfl ?_ | (apply cyes; first | assumption | omega) | (apply cno; first | assumption | omega) | refine (COND_true _ _).2 ?_ | refine (COND_false _ _).2 ?_ | simp (disch := first | assumption | omega) only [gs1, gs2, decide_true, decide_false, eq_self, beq_self_eq_true, Bool.not_true, Bool.not_false]))
    exact err w2 f02 ⟨_, b2⟩ fun s hl => hk (by rw [g0.1]; exact hl.1.2.2)
end
end Go.Proofs.Ytkifjfjhghogjaa
