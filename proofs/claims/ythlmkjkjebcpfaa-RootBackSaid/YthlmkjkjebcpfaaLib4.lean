/- Things put behind others; maps whose entries bear stamps; what came in and what is one's own, read alike. No condition. -/
import Derived.Test.YthlmkjkjebcpfaaLib2
import Derived.MapKept
namespace Go.Den
section
variable {α : Type} {enc : α → List Value} {sz : Nat} {w w' : World} {v : Value} {xs ys : List α} {F G : List Nat} {b : Nat}
theorem newslice_val (E sz : Nat) (zero : Array Value) (vs : List Value) (y : Value) (hy : y.cells = vs.toArray) (hl : vs.length = sz) (w : World) :
    newslice E zero sz 1 [(0, sz, y)] w = some (.slice (some ⟨hsz w, 0, none⟩) 1 1, w.alloc (.cells vs.toArray E)) := by
  have h := newslice_one E sz zero vs hl w
  unfold newslice fillv at h ⊢
  simp only [hy, cells_agg] at h ⊢
  exact h
/-- '[]T{x}', as what an append takes. -/
theorem newone_step {E : Nat} {zero : Array Value} {y : Value} {x : α} {k : Value → World → Prop} (hl : ∀ x, (enc x).length = sz) (hy : y.cells = (enc x).toArray)
    (h : ∀ t w1, Slc enc sz w1 t [x] [hsz w] → Fr [] w w1 → hsz w1 = hsz w + 1 → k t w1) : BND (newslice E zero sz 1 [(0, sz, y)] w) fun p => NEW p k := by
  refine BND_step (newslice_val E sz zero (enc x) y hy (hl x) w) <| (NEW_pair _ _ _).2 ?_
  refine h _ _ (.inr ⟨hsz w, 1, (enc x).toArray, E, rfl, blk_alloc_new _ _, by simp, by simp [hl], rfl, fun i u hu j hj => ?_⟩) (Fr.alloc _ _ _) (by simp)
  cases i with
  | zero => simp at hu; subst hu; simp
  | succ i => simp at hu
theorem newnil_step {E : Nat} {zero : Array Value} {k : Value → World → Prop} (enc : α → List Value) (h : ∀ t w1, Slc enc sz w1 t [] [hsz w] → Fr [] w w1 → hsz w1 = hsz w + 1 → k t w1) :
    BND (newslice E zero sz 0 [] w) fun p => NEW p k := by
  refine BND_step (v := (.slice (some ⟨hsz w, 0, none⟩) 0 0, w.alloc (.cells #[] E))) ?_ <| (NEW_pair _ _ _).2 ?_
  · unfold newslice
    have h0 : (Array.range (0 * sz)).map (zero[· % zero.size]!) = #[] := by apply Array.eq_empty_of_size_eq_zero; simp
    rw [h0]
    rfl
  · exact h _ _ (.inr ⟨hsz w, 0, #[], E, rfl, by simp, by simp, by simp, rfl, fun i x hx => by simp at hx⟩) (Fr.alloc _ _ _) (by simp)
theorem Slc.nil (enc : α → List Value) (sz : Nat) (w : World) : Slc enc sz w (.slice none 0 0) [] [] := .inl ⟨rfl, rfl, rfl⟩
/-- one's own slice reads as one that came in. -/
theorem Slc.arr (h : Slc enc sz w v xs F) : Arr enc sz w v xs := by
  rcases h with ⟨rfl, rfl, rfl⟩ | ⟨b, cap, c, T, rfl, hb, hc, hs, rfl, hel⟩
  · exact ⟨none, 0, rfl, .inl rfl⟩
  · refine ⟨some ⟨b, 0, none⟩, cap, rfl, .inr ⟨b, 0, c, T, (0, 0), rfl, hb, fun i x hx => ⟨?_, fun j hj => ?_⟩⟩⟩
    · have hi : i < xs.length := (List.getElem?_eq_some_iff.1 hx).1
      rw [hs, Nat.zero_add]
      have : (i + 1) * sz ≤ cap * sz := Nat.mul_le_mul_right _ (by omega)
      rw [Nat.succ_mul] at this
      exact this
    · rw [Nat.zero_add]; exact hel i x hx j hj
theorem Arr.src (h : Arr enc sz w v xs) (hl : ∀ x, (enc x).length = sz) (hsz : 0 < sz) : cellsOfArg w sz v = some (flat enc xs, xs.length) := by
  obtain ⟨a, cap, rfl, h⟩ := h
  rcases h with rfl | ⟨b, o, c, T, fz, rfl, h2, h3⟩
  · cases a <;> simp [cellsOfArg, flat, Den.loads]
  · by_cases h0 : xs = []
    · subst h0; simp [cellsOfArg, flat, Den.loads]
    have hpos : 0 < xs.length := List.length_pos_iff.2 h0
    have hbound : o + 0 + xs.length * sz ≤ c.size := by
      have hx := List.getElem?_eq_getElem (l := xs) (i := xs.length - 1) (by omega)
      have := (h3 _ _ hx).1
      have e : (xs.length - 1) * sz + sz = xs.length * sz := by
        rw [← Nat.succ_mul]; congr 1; omega
      omega
    simp only [cellsOfArg, loads_blk h2 _ 0 hbound, Option.map_some, Nat.add_zero]
    congr 2
    apply List.ext_getElem?
    intro n
    rw [List.getElem?_take, List.getElem?_drop]
    by_cases hn : n < xs.length * sz
    · rw [if_pos hn]
      have hd : n / sz < xs.length := Nat.div_lt_of_lt_mul (by rw [Nat.mul_comm]; exact hn)
      have hm : n % sz < sz := Nat.mod_lt _ hsz
      have hx := List.getElem?_eq_getElem hd
      have e1 := (h3 _ _ hx).2 _ hm
      have e2 := flat_get hl xs _ _ _ hx hm
      have e3 : n / sz * sz + n % sz = n := by rw [Nat.mul_comm]; exact Nat.div_add_mod n sz
      rw [Nat.add_assoc, e3] at e1
      rw [e3] at e2
      rw [e2, ← e1, Array.getElem?_toList]
    · rw [if_neg hn, List.getElem?_eq_none]
      rw [flat_len hl]; omega
end

/-! ## Maps with stamps -/
structure MapB {κ : Type} (enc : κ → Value) (es : Array MapEntry) (ck : Nat) (L : List (κ × Value)) : Prop where
  l : MapL enc es L
  lt : ∀ x ∈ es.toList, x.born < ck
  nd : (es.toList.map (·.born)).Nodup
section
variable {κ : Type} [DecidableEq κ] {enc : κ → Value} {kd : TypeDesc} {es : Array MapEntry} {ck : Nat} {L : List (κ × Value)}
omit [DecidableEq κ] in
theorem MapB.nil (enc : κ → Value) : MapB enc #[] 0 [] := ⟨⟨rfl, by simp⟩, by simp, by simp⟩
theorem modify_toList {α : Type} (es : Array α) (i : Nat) (f : α → α) : (es.modify i f).toList = es.toList.modify i f := by
  apply List.ext_getElem?
  intro n
  rw [Array.getElem?_toList, Array.getElem?_modify, List.getElem?_modify, Array.getElem?_toList]
  by_cases h : i = n <;> simp [h]
theorem map_modify_same {α β : Type} (g : α → β) (f : α → α) (h : ∀ x, g (f x) = g x) (l : List α) (i : Nat) : (l.modify i f).map g = l.map g := by
  apply List.ext_getElem?
  intro n
  rw [List.getElem?_map, List.getElem?_modify, List.getElem?_map]
  by_cases hn : i = n
  · subst hn; cases l[i]? <;> simp [h]
  · simp [hn]
theorem mem_modify {α : Type} {l : List α} {i : Nat} {f : α → α} {x : α} (h : x ∈ l.modify i f) : x ∈ l ∨ ∃ y ∈ l, x = f y := by
  obtain ⟨n, hn⟩ := List.mem_iff_getElem?.1 h
  rw [List.getElem?_modify] at hn
  cases hl : l[n]? with
  | none => simp [hl] at hn
  | some y =>
    simp [hl] at hn
    have hy := List.mem_of_getElem? hl
    by_cases hi : i = n
    · simp [hi] at hn; exact .inr ⟨y, hy, hn.symm⟩
    · simp [hi] at hn; exact .inl (hn ▸ hy)
theorem findBorn {es : Array MapEntry} (hnd : (es.toList.map (·.born)).Nodup) {i : Nat} {e : MapEntry} (he : es[i]? = some e) : es.findIdx? (fun x => (x.born : Int) == (e.born : Int)) = some i := by
  obtain ⟨hi, rfl⟩ := Array.getElem?_eq_some_iff.1 he
  rw [Array.findIdx?_eq_some_iff_getElem]
  refine ⟨hi, by simp, fun j hj => ?_⟩
  simp only [beq_iff_eq, Int.natCast_inj]
  intro e
  have hp := List.pairwise_iff_getElem.1 (List.nodup_iff_pairwise_ne.1 hnd) j i (by simp; omega) (by simpa using hi) hj
  simp at hp
  exact hp e
theorem mupd_B (hk : KeyOk kd enc) {w : World} {b : Nat} (hb : blk w b = some (.map es ck)) (h : MapB enc es ck L) (k : κ) (v : Value) :
    ∃ es' ck', mupd kd w (.map (some b)) (enc k) v = some (setB w b (.map es' ck')) ∧ MapB enc es' ck' (insL L k v) := by
  have h' : w.heap[b]? = some (.map es ck) := hb
  obtain ⟨es1, ck1, e1, l1⟩ := mupd_L hk hb h.l k v
  have e2 := e1
  unfold mupd at e2
  simp only [h', mfind_L hk h.l] at e2
  have key : ∀ es2 ck2, some ({ w with heap := w.heap.setIfInBounds b (.map es2 ck2) } : World) = some (setB w b (.map es1 ck1)) → es1 = es2 ∧ ck1 = ck2 := by
    intro es2 ck2 e
    have h1 : blk (setB w b (.map es2 ck2)) b = blk (setB w b (.map es1 ck1)) b := congrArg (fun x : World => blk x b) (Option.some.inj e)
    rw [blk_setB_same hb, blk_setB_same hb] at h1
    cases h1
    exact ⟨rfl, rfl⟩
  refine ⟨es1, ck1, e1, l1, ?_, ?_⟩
  all_goals
    cases hf : findL L k 0 with
    | none =>
      simp only [hf] at e2
      obtain ⟨rfl, rfl⟩ := key _ _ e2
      first
        | (intro x hx
           simp at hx
           rcases hx with hx | rfl
           · have := h.lt x (by simpa using hx); omega
           · simp)
        | (simp only [Array.toList_push, List.map_append, List.map_cons, List.map_nil]
           rw [List.nodup_append]
           refine ⟨h.nd, by simp, fun a ha c hc => ?_⟩
           simp at hc
           subst hc
           obtain ⟨x, hx, rfl⟩ := List.mem_map.1 ha
           have := h.lt x hx
           omega)
    | some p =>
      obtain ⟨i, u⟩ := p
      simp only [hf] at e2
      split at e2
      · obtain ⟨rfl, rfl⟩ := key _ _ e2
        rw [modify_toList]
        first
          | (intro x hx
             rcases mem_modify hx with hx | ⟨y, hy, rfl⟩
             · exact h.lt x hx
             · exact h.lt y hy)
          | (rw [map_modify_same (fun x : MapEntry => x.born) _ (by intro x; rfl)]; exact h.nd)
      · cases e2
/-- an entry made, and given its value. -/
theorem entry_B (hk : KeyOk kd enc) (zero : Value) {w : World} {b : Nat} (hb : blk w b = some (.map es ck)) (h : MapB enc es ck L) (k : κ) (v : Value) :
    ∃ es1 ck1 u n es2, mentry kd zero w (.map (some b)) (enc k) = some (.tuple #[u, .int .i64 n], setB w b (.map es1 ck1)) ∧
      (∀ w1, blk w1 b = some (.map es1 ck1) → mestore w1 (.map (some b)) (.int .i64 n) v = some (setB w1 b (.map es2 ck1))) ∧ MapB enc es2 ck1 (insL L k v) := by
  have h' : w.heap[b]? = some (.map es ck) := hb
  obtain ⟨es3, ck3, e3, l3⟩ := mupd_B hk hb h k v
  have e4 := e3
  unfold mupd at e4
  simp only [h', mfind_L hk h.l] at e4
  have key : ∀ es2 ck2, some ({ w with heap := w.heap.setIfInBounds b (.map es2 ck2) } : World) = some (setB w b (.map es3 ck3)) → es3 = es2 ∧ ck3 = ck2 := by
    intro es2 ck2 e
    have h1 : blk (setB w b (.map es2 ck2)) b = blk (setB w b (.map es3 ck3)) b := congrArg (fun x : World => blk x b) (Option.some.inj e)
    rw [blk_setB_same hb, blk_setB_same hb] at h1
    cases h1
    exact ⟨rfl, rfl⟩
  cases hf : findL L k 0 with
  | none =>
    simp only [hf] at e4
    obtain ⟨rfl, rfl⟩ := key _ _ e4
    refine ⟨es.push ⟨enc k, zero, ck⟩, ck + 1, zero, ck, es.push ⟨enc k, v, ck⟩, ?_, fun w1 hw1 => ?_, l3⟩
    · unfold mentry
      simp only [h', mfind_L hk h.l, hf]
      rfl
    · have h1 : w1.heap[b]? = some (.map (es.push ⟨enc k, zero, ck⟩) (ck + 1)) := hw1
      have hnd : ((es.push ⟨enc k, zero, ck⟩).toList.map (·.born)).Nodup := by
        have := l3.nd
        simpa using this
      have hfi := findBorn (i := es.size) (e := ⟨enc k, zero, ck⟩) hnd (by simp)
      unfold mestore
      simp only [h1, hfi]
      congr 2
      have : (es.push (⟨enc k, zero, ck⟩ : MapEntry)).modify es.size (fun e => { e with val := v }) = es.push ⟨enc k, v, ck⟩ := by
        apply Array.ext'
        rw [modify_toList, Array.toList_push, Array.toList_push]
        apply List.ext_getElem?
        intro n
        rw [List.getElem?_modify]
        by_cases hn : es.size = n
        · subst hn; simp
        · simp only [hn, if_false, List.getElem?_append, Array.length_toList]
          split
          · simp
          · have : n - es.size ≠ 0 := by omega
            obtain ⟨m, hm⟩ := Nat.exists_eq_succ_of_ne_zero this
            rw [hm]; simp
      rw [this]
  | some p =>
    obtain ⟨i, u⟩ := p
    simp only [hf] at e4
    split at e4
    · rename_i hs
      obtain ⟨rfl, rfl⟩ := key _ _ e4
      obtain ⟨j, hj, h2, _, _⟩ := findL_some hf
      simp at hj; subst hj
      have hi : i < es.size := by rw [h.l.size]; exact (List.getElem?_eq_some_iff.1 h2).1
      refine ⟨es.modify i (fun e => { e with key := enc k }), ck3, u, es[i].born, es.modify i (fun e => { e with key := enc k, val := v }), ?_, fun w1 hw1 => ?_, l3⟩
      · unfold mentry
        simp only [h', mfind_L hk h.l, hf, hs, if_true]
        simp [hi]
        rfl
      · have h1 : w1.heap[b]? = some (.map (es.modify i (fun e => { e with key := enc k })) ck3) := hw1
        have hnd : ((es.modify i (fun e : MapEntry => { e with key := enc k })).toList.map (·.born)).Nodup := by
          rw [modify_toList, map_modify_same (fun x : MapEntry => x.born) _ (by intro x; rfl)]; exact h.nd
        have hfi := findBorn (i := i) (e := ⟨enc k, es[i].val, es[i].born⟩) hnd (by rw [Array.getElem?_modify]; simp [hi])
        unfold mestore
        simp only [h1, hfi]
        congr 2
        have : (es.modify i (fun e : MapEntry => { e with key := enc k })).modify i (fun e => { e with val := v }) = es.modify i (fun e => { e with key := enc k, val := v }) := by
          apply Array.ext'
          rw [modify_toList, modify_toList, modify_toList]
          apply List.ext_getElem?
          intro n
          rw [List.getElem?_modify, List.getElem?_modify, List.getElem?_modify]
          by_cases hn : i = n
          · subst hn; cases es.toList[i]? <;> simp
          · simp [hn]
        rw [this]
    · cases e4
end
end Go.Den
