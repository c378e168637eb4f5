/- A map ranged over: its iterator in memory, what a step does. No condition but sizes. -/
import Derived.Test.YthlmkjkjebcpfaaStar
set_option linter.unusedSimpArgs false
set_option linter.unusedVariables false
namespace Go.Proofs.Ythlmkjkjebcpfaa
open Go.Den
def itHP (r m ck : Nat) (sn : Array Nat) : HP where
  p w F := blk w r = some (.mapIter (some m) ck sn ck) ∧ F = [r]
  lt := by rintro w F ⟨h, rfl⟩ c hc; simp at hc; subst hc; exact blk_lt h
  st := by rintro w w' F ⟨h, rfl⟩ hk; exact ⟨by rw [hk r (by simp), h], rfl⟩
/-- what was seen, what was not. -/
structure ItAt (es : Array MapEntry) (sn : Array Nat) (A B : List MapEntry) : Prop where
  all : (A ++ B).Perm es.toList
  seen : sn.toList = A.map (·.born)
theorem ItAt.start (es : Array MapEntry) : ItAt es #[] [] es.toList := ⟨by simp, by simp⟩
theorem find_born : ∀ {l : List MapEntry} {e : MapEntry}, (l.map (·.born)).Nodup → e ∈ l → l.find? (fun x => x.born == e.born) = some e
  | [], e, _, h => by simp at h
  | x :: l, e, hn, h => by
    simp only [List.map_cons, List.nodup_cons] at hn
    rcases List.mem_cons.1 h with rfl | h
    · simp
    · have hne : x.born ≠ e.born := fun he => hn.1 (by rw [he]; exact List.mem_map.2 ⟨e, h, rfl⟩)
      rw [List.find?_cons_of_neg (by simpa using hne)]
      exact find_born hn.2 h
section
variable {es : Array MapEntry} {sn : Array Nat} {A B : List MapEntry} {w : World} {r m ck : Nat}
theorem ItAt.nd (h : ItAt es sn A B) (hn : (es.toList.map (·.born)).Nodup) : ((A ++ B).map (·.born)).Nodup := (h.all.map _).nodup_iff.2 hn
theorem RANGEM_step {k : Value → World → Prop} (b1 : blk w m = some (.map es ck)) (h : ∀ w', blk w' (hsz w) = some (.mapIter (some m) ck #[] ck) → Fr [] w w' → hsz w' = hsz w + 1 → k (.pointer (some ⟨hsz w, 0, none⟩)) w') :
    BND (rangemv w (.map (some m))) fun p => NEW p k := by
  have b1' : w.heap[m]? = some (.map es ck) := b1
  refine BND_step (v := (.pointer (some ⟨w.heap.size, 0, none⟩), w.alloc (.mapIter (some m) ck #[] ck))) (by simp [rangemv, b1']) <| (NEW_pair _ _ _).2 ?_
  exact h _ (blk_alloc_new _ _) (Fr.alloc _ _ _) (by simp)
theorem NEXTM_step {k : Value → World → Prop} (b1 : blk w m = some (.map es ck)) (hlt : ∀ x ∈ es.toList, x.born < ck) (hnd : (es.toList.map (·.born)).Nodup) (b2 : blk w r = some (.mapIter (some m) ck sn ck)) (hi : ItAt es sn A B)
    (h0 : B = [] → k (.tuple #[.bool false]) w)
    (h1 : ∀ e B1 B2 w', B = B1 ++ e :: B2 → Fr [r] w w' → (itHP r m ck (sn.push e.born)).p w' [r] → ItAt es (sn.push e.born) (A ++ [e]) (B1 ++ B2) → entryv w' (.pointer (some ⟨r, 0, none⟩)) = some (.tuple #[e.key, e.val]) → k (.tuple #[.bool true, e.key, e.val]) w') :
    NEXTM (.pointer (some ⟨r, 0, none⟩)) w k := by
  refine ⟨?_⟩
  have b1' : w.heap[m]? = some (.map es ck) := b1
  have b2' : w.heap[r]? = some (.mapIter (some m) ck sn ck) := b2
  have hn := hi.nd hnd
  unfold NEXTMS
  simp only [b2', b1']
  refine ⟨hlt, Nat.le_refl _, fun hall => h0 ?_, fun e he hse w1 hh ho => ?_⟩
  · cases hB : B with
    | nil => rfl
    | cons x B' =>
      exfalso
      have hx : x ∈ es.toList := hi.all.mem_iff.1 (by rw [hB]; simp)
      have := hall x hx
      have hc : x.born ∈ A.map (·.born) := by
        rw [← hi.seen]
        simpa using this
      rw [List.map_append, List.nodup_append] at hn
      exact hn.2.2 _ hc _ (List.mem_map.2 ⟨x, by rw [hB]; simp, rfl⟩) rfl
  · have heA : e ∉ A := fun hA => by
      have hc : e.born ∈ sn.toList := by rw [hi.seen]; exact List.mem_map.2 ⟨e, hA, rfl⟩
      have : sn.contains e.born = true := by simpa using hc
      rw [this] at hse; cases hse
    have heB : e ∈ B := by
      rcases List.mem_append.1 (hi.all.mem_iff.2 he) with h | h
      · exact absurd h heA
      · exact h
    obtain ⟨B1, B2, hB⟩ := List.append_of_mem heB
    have hrm : r ≠ m := fun e => by subst e; rw [b1'] at b2'; cases b2'
    have hrlt : r < w.heap.size := blk_lt b2
    have k1 : blk ({ w1 with heap := w1.heap.setIfInBounds r (.mapIter (some m) ck (sn.push e.born) ck) } : World) r = some (.mapIter (some m) ck (sn.push e.born) ck) := by
      show (w1.heap.setIfInBounds r _)[r]? = _
      rw [hh, Array.getElem?_setIfInBounds_self, if_pos hrlt]
    have k2 : blk ({ w1 with heap := w1.heap.setIfInBounds r (.mapIter (some m) ck (sn.push e.born) ck) } : World) m = some (.map es ck) := by
      show (w1.heap.setIfInBounds r _)[m]? = _
      rw [hh, Array.getElem?_setIfInBounds_ne hrm]; exact b1'
    refine h1 e B1 B2 _ hB ⟨?_, fun b hb hb' => ?_, ho.1, ho.2.1, ho.2.2⟩ ⟨k1, rfl⟩ ⟨?_, ?_⟩ ?_
    · show w.heap.size ≤ (w1.heap.setIfInBounds r _).size
      rw [Array.size_setIfInBounds, hh]; exact Nat.le_refl _
    · show (w1.heap.setIfInBounds r _)[b]? = w.heap[b]?
      rw [hh, Array.getElem?_setIfInBounds_ne (fun e => hb' (by simp [e]))]
    · refine List.Perm.trans ?_ hi.all
      rw [hB, List.append_assoc]
      refine List.Perm.append_left A ?_
      rw [List.singleton_append]
      exact List.perm_middle.symm
    · simp [hi.seen]
    · have k1' : ({ w1 with heap := w1.heap.setIfInBounds r (.mapIter (some m) ck (sn.push e.born) ck) } : World).heap[r]? = _ := k1
      have k2' : ({ w1 with heap := w1.heap.setIfInBounds r (.mapIter (some m) ck (sn.push e.born) ck) } : World).heap[m]? = _ := k2
      have hf : es.find? (fun x => x.born == e.born) = some e := by rw [← Array.find?_toList]; exact find_born hnd he
      unfold entryv
      simp only [k1', k2', Array.back?_push, hf, if_true, Option.map_some]
end
/-- pointers of blocks of cells, compared. -/
def ptrB (b : Nat) : Value := .pointer (some ⟨b, 0, none⟩)
theorem ptrv_blk {w : World} {a b : Nat} {c c' : Array Value} {T T' : Nat} (ha : blk w a = some (.cells c T (0, 0))) (hb : blk w b = some (.cells c' T' (0, 0))) :
    ptrv w .eql (.pointer (some ⟨a, 0, none⟩)) (.pointer (some ⟨b, 0, none⟩)) = some (.bool (decide (a = b))) := by
  have ha' : w.heap[a]? = some (.cells c T (0, 0)) := ha
  have hb' : w.heap[b]? = some (.cells c' T' (0, 0)) := hb
  by_cases h : a = b
  · subst h; simp [ptrv, binn]
  · simp [ptrv, binn, cellsAt, ha', hb', h]
instance {x : Value} : Ev (extractv (.tuple #[x]) 0) x := ⟨rfl⟩
theorem loop_up3 {B : (Value → Value → Value → World → Prop) → (Value → Value → Value → World → Nat) → Value → Value → Value → World → Prop} {w : World} {o p : Value} (s n : Nat) (I : Value → Value → Nat → World → Prop) (h0 : I o p s w) (hs : s ≤ n)
    (h : ∀ o p i w1, s ≤ i → i ≤ n → I o p i w1 → ∀ J m, (∀ o' p' w', i < n → I o' p' (i + 1) w' → J o' p' (.int .i64 ((i + 1 : Nat) : Int)) w' ∧ m o' p' (.int .i64 ((i + 1 : Nat) : Int)) w' < m o p (.int .i64 (i : Int)) w1) → B J m o p (.int .i64 (i : Int)) w1) :
    ∃ (J : Value → Value → Value → World → Prop) (m : Value → Value → Value → World → Nat), J o p (.int .i64 (s : Int)) w ∧ ∀ (_d : Env) (o p t : Value) (w1 : World), J o p t w1 → B J m o p t w1 := by
  refine ⟨fun o p t w' => ∃ i : Nat, t = .int .i64 i ∧ s ≤ i ∧ i ≤ n ∧ I o p i w', fun _ _ t _ => match t with | .int _ k => n - k.toNat | _ => 0, ⟨s, rfl, Nat.le_refl _, hs, h0⟩, ?_⟩
  rintro _ o p _ w1 ⟨i, rfl, h1, h2, h3⟩
  exact h o p i w1 h1 h2 h3 _ _ fun o' p' w' h4 h5 => ⟨⟨i + 1, rfl, by omega, by omega, h5⟩, by simp; omega⟩
def seenN (r : Nat) (w : World) : Nat := match blk w r with
  | some (.mapIter _ _ sn _) => sn.size
  | _ => 0
theorem seenN_it {r m ck : Nat} {sn : Array Nat} {w : World} (h : blk w r = some (.mapIter (some m) ck sn ck)) : seenN r w = sn.size := by unfold seenN; rw [h]
/-- a loop over a map, of two variables. -/
theorem loop_it2 {B : (Value → Value → World → Prop) → (Value → Value → World → Nat) → Value → Value → World → Prop} {w : World} {o p : Value} (r n : Nat) (I : Value → Value → World → Prop) (h0 : I o p w)
    (h : ∀ o p w1, I o p w1 → ∀ J m, (∀ o' p' w', seenN r w1 < n → seenN r w' = seenN r w1 + 1 → I o' p' w' → J o' p' w' ∧ m o' p' w' < m o p w1) → B J m o p w1) :
    ∃ (J : Value → Value → World → Prop) (m : Value → Value → World → Nat), J o p w ∧ ∀ (_d : Env) (o p : Value) (w1 : World), J o p w1 → B J m o p w1 := by
  refine ⟨I, fun _ _ w' => n - seenN r w', h0, ?_⟩
  intro _ o p w1 h3
  exact h o p w1 h3 _ _ fun o' p' w' h4 h5 h6 => ⟨h6, by show n - seenN r w' < n - seenN r w1; omega⟩
end Go.Proofs.Ythlmkjkjebcpfaa
