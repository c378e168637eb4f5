/- The walk of due.Heap: what each of its functions makes of a heap in memory. No condition. -/
import Derived.Test.YtmjiohgdoienmaaLib
import Derived.Test.YtmjiohgdoienmaaM28
import Derived.Test.YtmjiohgdoienmaaM27
import Derived.Test.YtmjiohgdoienmaaM21
import Derived.Test.YtmjiohgdoienmaaM23
import Derived.Test.YtmjiohgdoienmaaM26
import Derived.Test.YtmjiohgdoienmaaM25
import Derived.Test.YtmjiohgdoienmaaM22
namespace Go.Proofs.Ytmjiohgdoienmaa
open Go.Den

/-- an entry: its time, its id. -/
abbrev E := Int × Int
def encE (e : E) : List Value := [.int .u64 e.1, .int .u64 e.2]
theorem encE_len (e : E) : (encE e).length = 2 := rfl
theorem encE_one (e : E) : ∀ u ∈ encE e, u.oneCell' = true := by
  intro u hu; simp [encE] at hu; rcases hu with rfl | rfl <;> rfl
def ltE (e f : E) : Bool := decide (e.1 < f.1) || (decide (e.1 = f.1) && decide (e.2 < f.2))

theorem due_less {e f : E} {w : World} {R : Value → World → Prop} (h : ∀ w', Fr [] w w' → R (.bool (ltE e f)) w') :
    CALL PR F_due_entry_less [.agg (encE e).toArray, .agg (encE f).toArray] w R := by
  refine C_due_entry_less ?_
  unfold M_due_entry_less
  refine NEW_intro fun w1 b1 f1 z1 => NEW_intro fun w2 b2 f2 z2 => ?_
  have b1' := f2.some (by simp) b1
  have hR := h _ (f1.trans' f2)
  by_cases c1 : e.1 < f.1
  · simpa [load1_blk b1', load1_blk b2, encE, c1, ltE] using hR
  · by_cases c2 : e.1 = f.1
    · simpa [load1_blk b1', load1_blk b2, encE, c1, c2, ltE] using hR
    · simpa [load1_blk b1', load1_blk b2, encE, c1, c2, ltE] using hR

/-- a heap in memory: the block hb, its entries l, its map's pairs L, its blocks F. -/
structure DueR (w : World) (hb : Nat) (l : List E) (L : List (Int × Value)) (F : List Nat) : Prop where
  ex : ∃ sv mb es ck T Fa, blk w hb = some (.cells #[sv, .func (.func F_due_Heap_stands) #[.pointer (some ⟨hb, 0, none⟩)] #[], .map (some mb)] T (0, 0)) ∧
    blk w mb = some (.map es ck) ∧ MapL (fun n : Int => Value.int .u64 n) es L ∧ Slc encE 2 w sv l Fa ∧ F = hb :: mb :: Fa ∧ F.Nodup
theorem DueR.lt {w : World} {hb : Nat} {l : List E} {L : List (Int × Value)} {F : List Nat} (h : DueR w hb l L F) : ∀ b ∈ F, b < hsz w := by
  obtain ⟨sv, mb, es, ck, T, Fa, h1, h2, h3, h4, rfl, h5⟩ := h
  intro b hb
  rcases List.mem_cons.1 hb with rfl | hb
  · exact blk_lt h1
  · rcases List.mem_cons.1 hb with rfl | hb
    · exact blk_lt h2
    · exact h4.lt b hb
theorem DueR.fr {w w' : World} {hb : Nat} {l : List E} {L : List (Int × Value)} {F G : List Nat} (h : DueR w hb l L F) (hf : Fr G w w') (hd : ∀ b ∈ F, b ∉ G) : DueR w' hb l L F := by
  obtain ⟨sv, mb, es, ck, T, Fa, h1, h2, h3, h4, rfl, h5⟩ := h
  exact ⟨sv, mb, es, ck, T, Fa, hf.some (hd _ (by simp)) h1, hf.some (hd _ (by simp)) h2, h3, h4.fr hf (fun b hb => hd b (by simp [hb])), rfl, h5⟩

theorem due_ahead {w : World} {hb : Nat} {l : List E} {L : List (Int × Value)} {F : List Nat} (h : DueR w hb l L F) {i k : Nat} (hi : i < l.length) (hk : k < l.length) {R : Value → World → Prop}
    (hR : ∀ w', Fr [] w w' → R (.bool (ltE l[i] l[k])) w') : CALL PR F_due_Heap_ahead [.pointer (some ⟨hb, 0, none⟩), .int .i64 i, .int .i64 k] w R := by
  obtain ⟨sv, mb, es, ck, T, Fa, h1, h2, h3, h4, rfl, h5⟩ := h
  refine C_due_Heap_ahead ?_
  unfold M_due_Heap_ahead
  have h1' : blk w.drew hb = _ := h1
  have h4' : Slc encE 2 w.drew sv l Fa := h4
  obtain ⟨ab, rfl, ei⟩ := h4.iaddr hi .i64
  obtain ⟨ab', e, ek⟩ := h4.iaddr hk .i64
  simp at e; subst e
  have li := h4'.loadn (List.getElem?_eq_getElem hi) rfl
  have lk := h4'.loadn (List.getElem?_eq_getElem hk) rfl
  simp [load1_blk h1', ei, ek, li, lk]
  exact due_less fun w' hf => hR w' ((Fr.drew [] w).trans' hf)

theorem due_stands {w : World} {hb : Nat} {l : List E} {L : List (Int × Value)} {F : List Nat} (h : DueR w hb l L F) (e : E) (v : Value) {R : Value → World → Prop}
    (hR : ∀ w', DueR w' hb l (insL L e.2 v) F → Fr F w w' → R (.tuple #[]) w') : CALL PR F_due_Heap_stands [.pointer (some ⟨hb, 0, none⟩), .agg (encE e).toArray, v] w R := by
  obtain ⟨sv, mb, es, ck, T, Fa, h1, h2, h3, h4, rfl, h5⟩ := h
  refine C_due_Heap_stands ?_
  unfold M_due_Heap_stands
  refine NEW_intro fun w1 b1 f1 z1 => ?_
  have b1' : blk w1.drew (hsz w) = _ := b1
  have h1' : blk w1.drew hb = _ := f1.some (by simp) h1
  have h2' : blk w1.drew mb = _ := f1.some (by simp) h2
  obtain ⟨es', ck', hm, h3'⟩ := mupd_L (keyInt .u64) h2' h3 e.2 v
  simp [load1_blk h1', load1_blk b1', encE, hm]
  have f2 : Fr (hb :: mb :: Fa) w1.drew (setB w1.drew mb (.map es' ck')) := Fr.setB (.inl (by simp)) _
  have hne : hb ≠ mb := fun e => by simp [e] at h5
  have hFa : ∀ b ∈ Fa, b ≠ mb := fun b hb' e => by subst e; simp [hb'] at h5
  refine hR _ ⟨sv, mb, es', ck', T, Fa, ?_, blk_setB_same h2', h3', ?_, rfl, h5⟩ ((f1.nil.trans' (Fr.drew _ _)).trans' f2)
  · rw [blk_setB_other hne.symm]; exact h1'
  · exact h4.congr fun b hb' => by rw [blk_setB_other (hFa b hb').symm]; exact f1.keep b (h4.lt b hb') (by simp)

def swapL (l : List E) (i k : Nat) : List E := (l.set i (l.getD k (0, 0))).set k (l.getD i (0, 0))
@[simp] theorem swapL_len (l : List E) (i k : Nat) : (swapL l i k).length = l.length := by simp [swapL]

theorem okStands : okCallee PR F_due_Heap_stands = true := by kernel_rfl
theorem okAhead : okCallee PR F_due_Heap_ahead = true := by kernel_rfl

theorem due_swap {w : World} {hb : Nat} {l : List E} {L : List (Int × Value)} {F : List Nat} (h : DueR w hb l L F) {i k : Nat} (hi : i < l.length) (hk : k < l.length) {R : Value → World → Prop}
    (hR : ∀ w', DueR w' hb (swapL l i k) (insL (insL L ((swapL l i k).getD i (0, 0)).2 (.int .i64 i)) ((swapL l i k).getD k (0, 0)).2 (.int .i64 k)) F → Fr F w w' → R (.tuple #[]) w') :
    CALL PR F_due_tree_entry_swap [.pointer (some ⟨hb, 0, none⟩), .int .i64 i, .int .i64 k] w R := by
  obtain ⟨sv, mb, es, ck, T, Fa, h1, h2, h3, h4, rfl, h5⟩ := h
  refine C_due_tree_entry_swap ?_
  unfold M_due_tree_entry_swap
  have h1' : blk w.drew hb = _ := h1
  have h4' : Slc encE 2 w.drew sv l Fa := h4
  obtain ⟨ab, rfl, ei⟩ := h4.iaddr hi .i64
  obtain ⟨ab', e, ek⟩ := h4.iaddr hk .i64
  simp at e; subst e
  have li := h4'.loadn (List.getElem?_eq_getElem hi) rfl
  have lk := h4'.loadn (List.getElem?_eq_getElem hk) rfl
  obtain ⟨w1, s1, q1, z1, o1⟩ := h4'.set hi (x := l[k]) rfl (encE_one _) (by omega)
  obtain ⟨w2, s2, q2, z2, o2⟩ := q1.set (i := k) (by simpa using hk) (x := l[i]) rfl (encE_one _) (by omega)
  have hsw : (l.set i l[k]).set k l[i] = swapL l i k := by simp [swapL, List.getD_eq_getElem?_getD, hi, hk]
  rw [hsw] at q2
  have n1 : hb ≠ ab := fun e => by simp [e] at h5
  have n2 : mb ≠ ab := fun e => by simp [e] at h5
  have g1 := ((o2 hb n1).trans (o1 hb n1)).trans h1'
  have g2 := ((o2 mb n2).trans (o1 mb n2)).trans h2
  have D2 : DueR w2.drew hb (swapL l i k) L [hb, mb, ab] := ⟨sv, mb, es, ck, T, [ab], g1, g2, h3, q2, rfl, h5⟩
  have fr2 : Fr [hb, mb, ab] w w2.drew := (((Fr.drew _ _).trans' ((Fr.of_set z1 o1).wider (by simp))).trans' ((Fr.of_set z2 o2).wider (by simp))).trans' (Fr.drew _ _)
  have g1' : blk w2.drew hb = _ := g1
  have q2' : Slc encE 2 w2.drew sv (swapL l i k) [ab] := q2
  have hi' : i < (swapL l i k).length := by simpa using hi
  have hk' : k < (swapL l i k).length := by simpa using hk
  have li2 := q2'.loadn (List.getElem?_eq_getElem hi') rfl
  simp [load1_blk h1', ei, ek, li, lk, s1, s2, load1_blk g1', li2, CALLV_func okStands]
  refine due_stands D2 _ _ fun w3 D3 f3 => ?_
  obtain ⟨sv', mb', es', ck', T', Fa', e1, e2, e3, e4, e5, e6⟩ := D3
  simp at e5; obtain ⟨rfl, rfl⟩ := e5
  have e1' : blk w3.drew hb = _ := e1
  have e4' : Slc encE 2 w3.drew sv' (swapL l i k) [ab] := e4
  obtain ⟨_, e, ek'⟩ := e4.iaddr hk' .i64
  simp at e; subst e
  have lk3 := e4'.loadn (List.getElem?_eq_getElem hk') rfl
  simp [load1_blk e1', ek', lk3, CALLV_func okStands]
  refine due_stands (w := w3.drew) (hb := hb) (l := swapL l i k) ⟨sv', _, es', ck', T', [_], e1, e2, e3, e4, rfl, e6⟩ _ _ fun w4 D4 f4 => ?_
  refine hR w4 ?_ ((fr2.trans' f3).trans' ((Fr.drew _ _).trans' f4))
  simpa [List.getD_eq_getElem?_getD, hi, hk] using D4

end Go.Proofs.Ytmjiohgdoienmaa
